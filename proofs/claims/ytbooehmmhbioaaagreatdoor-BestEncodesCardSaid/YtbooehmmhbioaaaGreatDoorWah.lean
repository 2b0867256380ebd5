/- Texts that the last one of this claim rests on: a layer over the guide's own conditions for code; contracts of the functions that the law reaches, one by one. No conditions beside those of the given rows. -/
import Derived.Lib.Bytealg
import Derived.Test.YtbooehmmhbioaaaGreatDoorWad
import Derived.Test.YtbooehmmhbioaaaGreatDoorWaf
import Derived.Test.YtbooehmmhbioaaaGreatDoorWag
set_option linter.unusedSimpArgs false
set_option linter.unusedVariables false
section
namespace Go.Av
open Go
def gw {α:Type}(q:α→Bool)(l:List α):Int:=match l.findIdx? q with|some i=>i|none=>-1
theorem fp {α:Type}{q:α→Bool}{l:List α}{i:Nat}{a:α}(h:l[i]?=some a)(hq:q a=true)(hn: ∀b∈l.take i,q b=false):gw q l=i:=by
 have:l.findIdx? q=some i:=by
  obtain⟨hi,he⟩:=List.getElem?_eq_some_iff.1 h
  refine List.findIdx?_eq_some_iff_getElem.2 ⟨hi,by rw[he];exact hq,λj hj=>?_⟩
  have:=hn l[j] (List.mem_of_getElem? (i:=j) (by rw[List.getElem?_take,if_pos hj];exact List.getElem?_eq_getElem (by omega)))
  simp[this]
 rw[gw,this]
theorem dr {α:Type}{q:α→Bool}{l:List α}(hn: ∀b∈l,q b=false):gw q l= -1:=by
 have:l.findIdx? q=none:=List.findIdx?_eq_none_iff.2 hn
 rw[gw,this]
theorem iP {α:Type}{q:α→Bool}{l:List α}:decide (0≤gw q l)=l.any q:=by
 unfold gw
 cases h:l.findIdx? q with
 |none=>
  have:=List.findIdx?_eq_none_iff.1 h
  have e:l.any q=false:=by rw[List.any_eq_false];intro x hx;simp[this x hx]
  rw[e];rfl
 |some i=>
  obtain⟨hi,h1,_⟩:=List.findIdx?_eq_some_iff_getElem.1 h
  have e:l.any q=true:=List.any_eq_true.2 ⟨_,List.getElem_mem hi,h1⟩
  rw[e]
  simp
theorem bP {σ:ab}{id:Nat}{te:TypeId}{xs:List AV}(h:id<σ.length)(i:Nat)(path:List Nat):look (σ.set id (some (.cells te xs))) id i path=(xs[i]?).bind (·.at path):=by simp[look,h]
theorem aw {σ:ab}{id:Nat}{te:TypeId}{xs:List AV}(h:σ[id]?=some (some (.cells te xs)))(i:Nat)(path:List Nat):look σ id i path=(xs[i]?).bind (·.at path):=by simp[look,h]
theorem c7 {σ:ab}{id:Nat}{te:TypeId}{xs:List AV}(h:id<σ.length)(i:Nat)(path:List Nat)(v:AV):de (σ.set id (some (.cells te xs))) id i path v=σ.set id (some (.cells te (xs.set i ((xs[i]?.getD .undef).setAt path v)))):=by simp[de,h]
theorem aR {σ:ab}{id:Nat}{te:TypeId}{xs:List AV}(h:σ[id]?=some (some (.cells te xs)))(i:Nat)(path:List Nat)(v:AV):de σ id i path v=σ.set id (some (.cells te (xs.set i ((xs[i]?.getD .undef).setAt path v)))):=by simp[de,h]
theorem fS {σ:ab}{id:Nat}{o:Option cX}(h:σ[id]?=some o):σ.set id o=σ:=by
 obtain⟨h1,h2⟩:=List.getElem?_eq_some_iff.1 h
 rw[←h2,List.set_getElem_self]
@[go_sem] theorem OO (t:TypeId)(fs:List AV)(k:Nat)(r:List Nat)(v:AV):(AV.agg t fs).setAt (k::r) v= .agg t (fs.set k ((fs[k]?.getD .undef).setAt r v)):=by
 cases h:fs[k]? with
 |none=>simp only[AV.setAt,h,Option.getD_none];rw[List.set_eq_of_length_le (List.getElem?_eq_none_iff.1 h)]
 |some y=>simp only[AV.setAt,h,Option.getD_some]
theorem ak.go {P:Program}{W0:World}{A:aa}{g:FuncId}{caps us:List AV}{dst:Option Nat}{k:aa→Prop}{Q:AV→ab→Prop}{σ:ab}(hσ:A.st=σ)(h:aY P W0 g (us++caps) σ Q)(hk: ∀r σ',Q r σ'→k ((A.put dst r).an σ')):ak P W0 (.fn g caps) us dst A k .mk:=by
 subst hσ
 exact h.mono hk
theorem ak.goes {P:Program}{W0:World}{A:aa}{g:FuncId}{us:List AV}{dst:Option Nat}{k:aa→Prop}{Q:AV→ab→Prop}{σ:ab}(hσ:A.st=σ)(h:aY P W0 g us σ Q)(hk: ∀r σ',Q r σ'→k ((A.put dst r).an σ')):ak P W0 (.fn g []) us dst A k .mk:=.go hσ (by simpa using h) hk
theorem ak.reads {P:Program}{W0:World}{A:aa}{g:FuncId}{us:List AV}{dst:Option Nat}{k:aa→Prop}{r:AV}{σ:ab}(hσ:A.st=σ)(h:aY P W0 g us σ λr' σ'=>r'=r∧σ'=σ)(hk:k (A.put dst r)):ak P W0 (.fn g []) us dst A k .mk:=.goes hσ h λr' σ' ⟨h1,h2⟩=>by
 subst h1 h2 hσ
 rwa [nX]
theorem JE (c:UInt8):IntKind.u8.wrap (c.toNat:Int)=c.toNat:=by
 have:=c.toNat_lt
 show(c.toNat:Int) % 256=c.toNat
 omega
theorem Bp {c:UInt8}(h:c.toNat<128):za (c.toNat:Int)=[c]:=by
 have hv:Utf8.valid (c.toNat:Int)=true:=by
  simp only[Utf8.valid]
  simp
  omega
 have e:Utf8.encode (c.toNat:Int)=⟨#[UInt8.ofNat c.toNat]⟩:=by
  unfold Utf8.encode
  rw[if_pos hv,if_pos (by simpa using h)]
  simp
 rw[za,e]
 simp
def fA (a b:List UInt8):Int:=if Op.bytesLess a b=true then-1 else if a=b then 0 else 1
def orL :List Int→Int
 |[]=>0
 |x::r=>if x≠0 then x else orL r
theorem oB (s:List UInt8)(c:UInt8):Lib.indexByte s c=aO c s:=by
 induction s with
 |nil=>rfl
 |cons d r ih=>
  unfold Lib.indexByte
  cases h:d==c with
  |true=>simp[aO,List.findIdx?_cons,h]
  |false=>
   simp only[Bool.false_eq_true,if_false,ih]
   rcases gG c r with⟨h1,h2⟩|⟨i,h1,_,_⟩
   ·rw[h1]
    have:(d::r).findIdx? (· ==c)=none:=List.findIdx?_eq_none_iff.2 λx hx=>by
     rcases List.mem_cons.1 hx with rfl|hx
     ·exact h
     ·simp;intro e;subst e;exact h2 hx
    simp[aO,this]
   ·have hne:((aO c r)== -1)=false:=by rw[h1,beq_eq_false_iff_ne];omega
    rw[hne]
    simp only[Bool.false_eq_true,if_false]
    have hf:r.findIdx? (· ==c)=some i:=by
     unfold aO at h1
     split at h1
     ·rename_i j hj;rw[hj];congr 1;omega
     ·omega
    rw[h1]
    simp[aO,List.findIdx?_cons,h,hf]
theorem Au (s:List UInt8)(c:UInt8):decide (0≤aO c s)=s.contains c:=by
 rcases gG c s with⟨h1,h2⟩|⟨i,h1,h2,_⟩
 ·rw[h1];simp[h2]
 ·rw[h1]
  have:c∈s:=List.mem_of_getElem? h2
  simp[this]
def JI (c:UInt8)(s:List UInt8):List UInt8:=if 0≤aO c s then s.take (aO c s).toNat else s
def EW (c:UInt8)(s:List UInt8):List UInt8:=if 0≤aO c s then s.drop ((aO c s).toNat+1)else []
def si (c:UInt8)(s:List UInt8):AV:=.tup [.str (JI c s),.str (EW c s),.bool (decide (0≤aO c s))]
theorem vS (c:UInt8)(s:List UInt8):aU 0 (si c s):=by
 refine .tup λx hx=>?_
 simp at hx
 rcases hx with rfl|rfl|rfl<;>first|exact .str _|exact .bool _
end Go.Av
end
section
namespace Go.Proofs.Tryz
open Go Go.Av
set_option maxRecDepth 10000
variable {W0 :World}
def aN (a:Atom):AV:=.agg 81 [.str a.name,.int .i64 a.rel,.str a.ver]
def aC (l:List Atom):AV:=.sl 81 (l.map aN)
def ax (l:List Clause):AV:=.sl 72 (l.map aC)
def cV (p:ia):AV:=.agg 147 [.str p.name,.str p.ver]
def cn (l:List ia):AV:=.sl 147 (l.map cV)
def au (p:Pkg):AV:=.agg 54 [.str p.name,.str p.ver,ax p.pre,ax p.dep,ax p.rcm,aC p.con,aC p.brk,cn p.dI,.bool p.ess]
def aT (l:List Pkg):AV:=.sl 54 (l.map au)
theorem CF (s:List UInt8):ag prog W0 51 [.str s] (.bool (dc s)):=by
 refine al [2] [] func51 rfl rfl ntmps51 rfl rfl (.bool _) λhs σ=>?_
 have hsl:s.length≤maxLen:=cT (hs _ (by simp))
 simp only[go_sem,simprocAttr]
 refine VC.upto [] s.length (λi A=>A.env 0= .str s∧A.env 6= .int .i64 s.length∧A.env 7= .int .i64 i∧A.st=σ∧ ∀j c,j<i→s[j]?=some c→iB j c=true) 0 (Nat.zero_le _) (.here ?_) λi A hi ⟨h0,h6,h7,hst,hI⟩=>?_
 ·simp only[go_sem,simprocAttr]
  all_goals simp
 simp only[go_sem,simprocAttr,h0,h6,h7,hst]
 refine⟨λhc=>⟨hc,ak.fn (Ae _) ?_⟩,λhc=>?_⟩
 ·obtain⟨c,hc'⟩:=get_some hc
  simp only[go_sem,simprocAttr,h0,h6,h7,hst,hc']
  refine aA.fnG (λ_=>fc _) ?_
  simp only[go_sem,simprocAttr,h0,h6,h7,hst,hc']
  refine⟨λhb=>ai ?_,λhb=>⟨hc,.here ?_⟩⟩
  ·have:iB i c=false:=by simp[iB]at hb ⊢;refine⟨hb.1,?_⟩;omega
   rw[dc,nr hc' this,Bool.and_false]
  ·simp only[go_sem,simprocAttr,h0,h6,h7,hst]
   refine⟨ah hc hsl,λj d hj hd=>?_⟩
   rcases Nat.lt_succ_iff_lt_or_eq.1 hj with hj|rfl
   ·exact hI j d hj hd
   ·have e:d=c:=by rw[hd]at hc';exact Option.some.inj hc'
    subst e
    revert hb
    unfold iB
    cases iz d<;>cases aI d<;>simp
    omega
 ·have:iK iB 0 s=true:=jI.2 λj c hj=>by rw[Nat.zero_add];exact hI j c (by have:=(List.getElem?_eq_some_iff.1 hj).1;omega) hj
  refine ai ?_
  rw[dc,this,Bool.and_true]
  congr 1<;>exact decide_eq_decide.2 (by omega)
theorem Bi (rel:Int):(!(oU rel==[]))=(decide (1≤rel)&&decide (rel≤5)):=by
 unfold oU
 by_cases h1:rel=1
 ·subst h1;rfl
 by_cases h2:rel=2
 ·subst h2;rfl
 by_cases h3:rel=3
 ·subst h3;rfl
 by_cases h4:rel=4
 ·subst h4;rfl
 by_cases h5:rel=5
 ·subst h5;rfl
 rw[if_neg h1,if_neg h2,if_neg h3,if_neg h4,if_neg h5]
 simp
 omega
theorem tF (a:Atom):ag prog W0 137 [aN a] (.bool (bT a)):=by
 refine al [2] [1] func137 rfl rfl ntmps137 rfl rfl (.bool _) λhs σ=>?_
 simp only[go_sem,simprocAttr,aN]
 refine ak.fn (CF a.name) ?_
 simp only[go_sem,simprocAttr,aN]
 refine⟨λhn=>ai (by rw[bT,hn];rfl),λhn=>⟨λh0=>ai (by rw[bT,hn,if_pos h0];rfl),λh0=>ak.fn (HG a.rel) ?_⟩⟩
 simp only[go_sem,simprocAttr,aN]
 refine aA.fnG (λ_=>se a.ver) ?_
 simp only[go_sem,simprocAttr,aN]
 refine ai ?_
 rw[bT,hn,if_neg h0,Bool.true_and,Bi]
end Go.Proofs.Tryz
end
section
namespace Go.Proofs.Tryz
open Go Go.Av
set_option maxRecDepth 10000
variable {W0 :World}
theorem pK (c:UInt8):ag prog W0 200 [.int .u8 c.toNat] (.bool (aI c)):=by
 refine al [2] [] func200 rfl rfl ntmps200 rfl rfl (.bool _) λ_ σ=>?_
 simp only[go_sem,simprocAttr]
 exact ai (by rw[aI];congr 1<;>exact decide_eq_decide.2 (by omega))
theorem vl (c:UInt8):ag prog W0 236 [.int .u8 c.toNat] (.bool (cE c)):=by
 refine al [2] [] func236 rfl rfl ntmps236 rfl rfl (.bool _) λ_ σ=>?_
 simp only[go_sem,simprocAttr]
 refine ai ?_
 unfold cE iz
 congr 2<;>exact decide_eq_decide.2 (by omega)
theorem A4 (s:List UInt8):ag prog W0 198 [.str s] (.bool (decide (1≤s.length)&&decide (s.length≤9)&&s.all aI)):=by
 refine al [2] [] func198 rfl rfl ntmps198 rfl rfl (.bool _) λhs σ=>?_
 simp only[go_sem,simprocAttr]
 refine⟨λh=>ai ?_,λh=>?_⟩
 ·cases s with
  |nil=>rfl
  |cons c r=>
   have: ¬((c::r).length≤9):=by simp at h ⊢;omega
   rw[decide_eq_false this];simp
 have hl:1≤s.length∧s.length≤9:=by cases s<;>simp at h ⊢;omega
 refine VC.cu [] (λk A=>∃ pos,A.env 13= .it σ.length∧A.st=σ++[some (.iter s pos)]∧k=s.length-pos∧pos≤s.length∧(s.take pos).all aI=true) s.length (.here ⟨0,?_⟩) λk A ⟨pos,h13,hst,hk,hp,hI⟩=>?_
 ·simp only[go_sem,simprocAttr]
  all_goals simp
 simp only[go_sem,simprocAttr,h13,hst]
 refine⟨λhlt=>?_,λhge=>?_⟩
 ·obtain⟨c,hc⟩:=get_some hlt
  simp only[Bool.or_eq_true,Bool.or_eq_false_iff,decide_eq_true_eq,decide_eq_false_iff_not]
  have bad:aI c=false→(decide (1≤s.length)&&decide (s.length≤9)&&s.all aI)=false:=λhd=>by rw[all_false hc hd,Bool.and_false]
  rcases Nat.lt_or_ge c.toNat 128 with h8|h8
  ·rw[mj hc h8]
   refine⟨λhb=>ai (bad ?_).symm,λhb=>.here (s.length-(pos+1)) (by omega) ⟨pos+1,?_⟩⟩
   ·simp[aI];omega
   ·simp only[go_sem,simprocAttr,h13,hst]
    exact⟨by omega,lH hI hc (by simp[aI];omega)⟩
  ·have:=p8 hc h8
   refine⟨λhb=>ai (bad ?_).symm,λhb=>by omega⟩
   simp[aI];omega
 ·have:pos=s.length:=by omega
  rw[this,List.take_length]at hI
  refine ai ?_
  simp[hl,hI]
end Go.Proofs.Tryz
end
section
namespace Go.Proofs.Tryz
open Go Go.Av
set_option maxRecDepth 10000
variable {W0 :World}
theorem IL {α:Type}(enc:α→AV)(hp: ∀a,cJ (enc a))(l:List α)(q:α→Bool)(g:FuncId)(caps:List AV)(h: ∀a∈l,ag prog W0 g ([enc a]++caps) (.bool (q a))):
  ag prog W0 239 [.sl 81 (l.map enc),.fn g caps] (.int .i64 (gw q l)):=by
 refine al [4] [] func239 rfl rfl ntmps239 rfl rfl (.int _ _) λhs σ=>?_
 have hl:=(aH (hs _ (List.mem_cons_self ..))).1
 simp only[go_sem,simprocAttr]
 refine ae.upto [0,1,7] (.of (by kernel_rfl)) l.length (λi A=>A.env 8= .int .i64 i∧A.st=σ∧ ∀a∈l.take i,q a=false) 0 (Nat.zero_le _) ?_ λi B hi ⟨h8,hst,hI⟩=>?_
 ·simp only[go_sem,simprocAttr]
  all_goals simp
 simp only[go_sem,simprocAttr,h8,hst,List.length_map]
 refine⟨λhc=>⟨hc,?_⟩,λhc=>ar ?_⟩
 ·obtain⟨a,ha⟩:=get_some hc
  simp only[av ha,bR (hp a),cp (hp a),true_and]
  refine ak.pure (h a (List.mem_of_getElem? ha)) ?_
  simp only[go_sem,simprocAttr,h8,hst]
  refine⟨λhq=>ar (fp ha hq hI).symm,λhq=>⟨hc,ah hc hl,?_⟩⟩
  rw[aj ha]
  intro b hb
  rcases List.mem_append.1 hb with hb|hb
  ·exact hI b hb
  ·rw[List.mem_singleton.1 hb];exact hq
 ·rw[dr]
  rwa [List.take_of_length_le hc]at hI
theorem NM {α:Type}(enc:α→AV)(hp: ∀a,cJ (enc a))(l:List α)(q:α→Bool)(g:FuncId)(caps:List AV)(h: ∀a∈l,ag prog W0 g ([enc a]++caps) (.bool (q a))):
  ag prog W0 233 [.sl 81 (l.map enc),.fn g caps] (.int .i64 (gw q l)):=by
 refine al [4] [] func233 rfl rfl ntmps233 rfl rfl (.int _ _) λhs σ=>?_
 have hl:=(aH (hs _ (List.mem_cons_self ..))).1
 simp only[go_sem,simprocAttr]
 refine ae.upto [0,1,7] (.of (by kernel_rfl)) l.length (λi A=>A.env 8= .int .i64 i∧A.st=σ∧ ∀a∈l.take i,q a=false) 0 (Nat.zero_le _) ?_ λi B hi ⟨h8,hst,hI⟩=>?_
 ·simp only[go_sem,simprocAttr]
  all_goals simp
 simp only[go_sem,simprocAttr,h8,hst,List.length_map]
 refine⟨λhc=>⟨hc,?_⟩,λhc=>ar ?_⟩
 ·obtain⟨a,ha⟩:=get_some hc
  simp only[av ha,bR (hp a),cp (hp a),true_and]
  refine ak.pure (h a (List.mem_of_getElem? ha)) ?_
  simp only[go_sem,simprocAttr,h8,hst]
  refine⟨λhq=>ar (fp ha hq hI).symm,λhq=>⟨hc,ah hc hl,?_⟩⟩
  rw[aj ha]
  intro b hb
  rcases List.mem_append.1 hb with hb|hb
  ·exact hI b hb
  ·rw[List.mem_singleton.1 hb];exact hq
 ·rw[dr]
  rwa [List.take_of_length_le hc]at hI
theorem U1 {α:Type}(enc:α→AV)(hp: ∀a,cJ (enc a))(l:List α)(q:α→Bool)(g:FuncId)(caps:List AV)(h: ∀a∈l,ag prog W0 g ([enc a]++caps) (.bool (q a))):
  ag prog W0 83 [.sl 54 (l.map enc),.fn g caps] (.int .i64 (gw q l)):=by
 refine al [4] [] func83 rfl rfl ntmps83 rfl rfl (.int _ _) λhs σ=>?_
 have hl:=(aH (hs _ (List.mem_cons_self ..))).1
 simp only[go_sem,simprocAttr]
 refine ae.upto [0,1,7] (.of (by kernel_rfl)) l.length (λi A=>A.env 8= .int .i64 i∧A.st=σ∧ ∀a∈l.take i,q a=false) 0 (Nat.zero_le _) ?_ λi B hi ⟨h8,hst,hI⟩=>?_
 ·simp only[go_sem,simprocAttr]
  all_goals simp
 simp only[go_sem,simprocAttr,h8,hst,List.length_map]
 refine⟨λhc=>⟨hc,?_⟩,λhc=>ar ?_⟩
 ·obtain⟨a,ha⟩:=get_some hc
  simp only[av ha,bR (hp a),cp (hp a),true_and]
  refine ak.pure (h a (List.mem_of_getElem? ha)) ?_
  simp only[go_sem,simprocAttr,h8,hst]
  refine⟨λhq=>ar (fp ha hq hI).symm,λhq=>⟨hc,ah hc hl,?_⟩⟩
  rw[aj ha]
  intro b hb
  rcases List.mem_append.1 hb with hb|hb
  ·exact hI b hb
  ·rw[List.mem_singleton.1 hb];exact hq
 ·rw[dr]
  rwa [List.take_of_length_le hc]at hI
theorem Mt {α:Type}(enc:α→AV)(hp: ∀a,cJ (enc a))(l:List α)(q:α→Bool)(g:FuncId)(caps:List AV)(h: ∀a∈l,ag prog W0 g ([enc a]++caps) (.bool (q a))):
  ag prog W0 229 [.sl 147 (l.map enc),.fn g caps] (.int .i64 (gw q l)):=by
 refine al [4] [] func229 rfl rfl ntmps229 rfl rfl (.int _ _) λhs σ=>?_
 have hl:=(aH (hs _ (List.mem_cons_self ..))).1
 simp only[go_sem,simprocAttr]
 refine ae.upto [0,1,7] (.of (by kernel_rfl)) l.length (λi A=>A.env 8= .int .i64 i∧A.st=σ∧ ∀a∈l.take i,q a=false) 0 (Nat.zero_le _) ?_ λi B hi ⟨h8,hst,hI⟩=>?_
 ·simp only[go_sem,simprocAttr]
  all_goals simp
 simp only[go_sem,simprocAttr,h8,hst,List.length_map]
 refine⟨λhc=>⟨hc,?_⟩,λhc=>ar ?_⟩
 ·obtain⟨a,ha⟩:=get_some hc
  simp only[av ha,bR (hp a),cp (hp a),true_and]
  refine ak.pure (h a (List.mem_of_getElem? ha)) ?_
  simp only[go_sem,simprocAttr,h8,hst]
  refine⟨λhq=>ar (fp ha hq hI).symm,λhq=>⟨hc,ah hc hl,?_⟩⟩
  rw[aj ha]
  intro b hb
  rcases List.mem_append.1 hb with hb|hb
  ·exact hI b hb
  ·rw[List.mem_singleton.1 hb];exact hq
 ·rw[dr]
  rwa [List.take_of_length_le hc]at hI
theorem FK {α:Type}(enc:α→AV)(hp: ∀a,cJ (enc a))(l:List α)(q:α→Bool)(g:FuncId)(caps:List AV)(h: ∀a∈l,ag prog W0 g ([enc a]++caps) (.bool (q a))):
  ag prog W0 238 [.sl 72 (l.map enc),.fn g caps] (.int .i64 (gw q l)):=by
 refine al [4] [] func238 rfl rfl ntmps238 rfl rfl (.int _ _) λhs σ=>?_
 have hl:=(aH (hs _ (List.mem_cons_self ..))).1
 simp only[go_sem,simprocAttr]
 refine ae.upto [0,1,7] (.of (by kernel_rfl)) l.length (λi A=>A.env 8= .int .i64 i∧A.st=σ∧ ∀a∈l.take i,q a=false) 0 (Nat.zero_le _) ?_ λi B hi ⟨h8,hst,hI⟩=>?_
 ·simp only[go_sem,simprocAttr]
  all_goals simp
 simp only[go_sem,simprocAttr,h8,hst,List.length_map]
 refine⟨λhc=>⟨hc,?_⟩,λhc=>ar ?_⟩
 ·obtain⟨a,ha⟩:=get_some hc
  simp only[av ha,bR (hp a),cp (hp a),true_and]
  refine ak.pure (h a (List.mem_of_getElem? ha)) ?_
  simp only[go_sem,simprocAttr,h8,hst]
  refine⟨λhq=>ar (fp ha hq hI).symm,λhq=>⟨hc,ah hc hl,?_⟩⟩
  rw[aj ha]
  intro b hb
  rcases List.mem_append.1 hb with hb|hb
  ·exact hI b hb
  ·rw[List.mem_singleton.1 hb];exact hq
 ·rw[dr]
  rwa [List.take_of_length_le hc]at hI
end Go.Proofs.Tryz
end
section
namespace Go.Proofs.Tryz
open Go Go.Av
set_option maxRecDepth 10000
variable {W0 :World}
theorem I9 {α:Type}(enc:α→AV)(hp: ∀a,cJ (enc a))(l:List α)(q:α→Bool)(g:FuncId)(caps:List AV)(h: ∀a∈l,ag prog W0 g ([enc a]++caps) (.bool (q a))):
  ag prog W0 203 [.sl 81 (l.map enc),.fn g caps] (.bool (l.any q)):=by
 refine al [4] [] func203 rfl rfl ntmps203 rfl rfl (.bool _) λhs σ=>?_
 simp only[go_sem,simprocAttr]
 refine ak.fn (IL enc hp l q g caps h) ?_
 simp only[go_sem,simprocAttr]
 exact ai iP
theorem Gk {α:Type}(enc:α→AV)(hp: ∀a,cJ (enc a))(l:List α)(q:α→Bool)(g:FuncId)(caps:List AV)(h: ∀a∈l,ag prog W0 g ([enc a]++caps) (.bool (q a))):
  ag prog W0 193 [.sl 81 (l.map enc),.fn g caps] (.bool (l.any q)):=by
 refine al [4] [] func193 rfl rfl ntmps193 rfl rfl (.bool _) λhs σ=>?_
 simp only[go_sem,simprocAttr]
 refine ak.fn (NM enc hp l q g caps h) ?_
 simp only[go_sem,simprocAttr]
 exact ai iP
theorem L4 {α:Type}(enc:α→AV)(hp: ∀a,cJ (enc a))(l:List α)(q:α→Bool)(g:FuncId)(caps:List AV)(h: ∀a∈l,ag prog W0 g ([enc a]++caps) (.bool (q a))):
  ag prog W0 36 [.sl 54 (l.map enc),.fn g caps] (.bool (l.any q)):=by
 refine al [4] [] func36 rfl rfl ntmps36 rfl rfl (.bool _) λhs σ=>?_
 simp only[go_sem,simprocAttr]
 refine ak.fn (U1 enc hp l q g caps h) ?_
 simp only[go_sem,simprocAttr]
 exact ai iP
theorem OI {α:Type}(enc:α→AV)(hp: ∀a,cJ (enc a))(l:List α)(q:α→Bool)(g:FuncId)(caps:List AV)(h: ∀a∈l,ag prog W0 g ([enc a]++caps) (.bool (q a))):
  ag prog W0 182 [.sl 147 (l.map enc),.fn g caps] (.bool (l.any q)):=by
 refine al [4] [] func182 rfl rfl ntmps182 rfl rfl (.bool _) λhs σ=>?_
 simp only[go_sem,simprocAttr]
 refine ak.fn (Mt enc hp l q g caps h) ?_
 simp only[go_sem,simprocAttr]
 exact ai iP
theorem F0 {α:Type}(enc:α→AV)(hp: ∀a,cJ (enc a))(l:List α)(q:α→Bool)(g:FuncId)(caps:List AV)(h: ∀a∈l,ag prog W0 g ([enc a]++caps) (.bool (q a))):
  ag prog W0 201 [.sl 72 (l.map enc),.fn g caps] (.bool (l.any q)):=by
 refine al [4] [] func201 rfl rfl ntmps201 rfl rfl (.bool _) λhs σ=>?_
 simp only[go_sem,simprocAttr]
 refine ak.fn (FK enc hp l q g caps h) ?_
 simp only[go_sem,simprocAttr]
 exact ai iP
theorem Ox (l:List (List UInt8))(s:List UInt8):ag prog W0 205 [.sl 9 (l.map .str),.str s] (.int .i64 (gw (λx=>s==x) l)):=by
 refine al [4] [] func205 rfl rfl ntmps205 rfl rfl (.int _ _) λhs σ=>?_
 have hl:=(aH (hs _ (List.mem_cons_self ..))).1
 simp only[go_sem,simprocAttr]
 refine ae.upto [0,1,7] (.of (by kernel_rfl)) l.length (λi A=>A.env 8= .int .i64 i∧A.st=σ∧ ∀a∈l.take i,(s==a)=false) 0 (Nat.zero_le _) ?_ λi B hi ⟨h8,hst,hI⟩=>?_
 ·simp only[go_sem,simprocAttr]
  all_goals simp
 simp only[go_sem,simprocAttr,h8,hst,List.length_map]
 refine⟨λhc=>⟨hc,?_⟩,λhc=>ar ?_⟩
 ·obtain⟨a,ha⟩:=get_some hc
  simp only[av ha]
  simp only[go_sem,simprocAttr,h8,hst]
  refine⟨λhq=>ar (fp (q:=λx=>s==x) ha (by simpa using hq) hI).symm,λhq=>⟨hc,ah hc hl,?_⟩⟩
  rw[aj ha]
  intro b hb
  rcases List.mem_append.1 hb with hb|hb
  ·simpa using hI b hb
  ·rw[List.mem_singleton.1 hb];simpa using hq
 ·rw[dr]
  rwa [List.take_of_length_le hc]at hI
theorem MH (l:List (List UInt8))(s:List UInt8):ag prog W0 150 [.sl 9 (l.map .str),.str s] (.bool (l.any λx=>s==x)):=by
 refine al [4] [] func150 rfl rfl ntmps150 rfl rfl (.bool _) λhs σ=>?_
 simp only[go_sem,simprocAttr]
 refine ak.fn (Ox l s) ?_
 simp only[go_sem,simprocAttr]
 exact ai iP
theorem HH (a:Int):ag prog W0 251 [.int .i64 a] (.bool false):=by
 refine al [2] [] func251 rfl rfl ntmps251 rfl rfl (.bool _) λhs σ=>?_
 simp only[go_sem,simprocAttr]
 exact ai (by simp)
theorem EP (a b:Int):ag prog W0 226 [.int .i64 a,.int .i64 b] (.int .i64 (sgn a b)):=by
 refine al [4] [] func226 rfl rfl ntmps226 rfl rfl (.int _ _) λhs σ=>?_
 simp only[go_sem,simprocAttr]
 refine ak.fn (HH a) ?_
 simp only[go_sem,simprocAttr]
 refine ak.fn (HH b) ?_
 simp only[go_sem,simprocAttr]
 refine⟨λh=>ar (by simp[sgn,h]),λh=>⟨λh'=>ar (by simp[sgn,h'];omega),λh'=>ar (by rw[sgn,if_neg (by omega),if_neg (by omega)])⟩⟩
theorem CA (s:List UInt8):ag prog W0 156 [.str s] (.bool false):=by
 refine al [2] [] func156 rfl rfl ntmps156 rfl rfl (.bool _) λhs σ=>?_
 simp only[go_sem,simprocAttr]
theorem wj (a b:List UInt8):ag prog W0 95 [.str a,.str b] (.int .i64 (fA a b)):=by
 refine al [4] [] func95 rfl rfl ntmps95 rfl rfl (.int _ _) λhs σ=>?_
 simp only[go_sem,simprocAttr]
 refine ak.fn (CA a) ?_
 simp only[go_sem,simprocAttr]
 refine ak.fn (CA b) ?_
 simp only[go_sem,simprocAttr]
 refine⟨λh=>ar (by simp[fA,h]),λh=>⟨λh'=>ar (by simp at h';simp[fA,h,h'.2]),λh'=>ar ?_⟩⟩
 rw[fA,h]
 simp at h' ⊢
 rcases h' with h'|h'
 ·rw[h]at h';cases h'
 ·exact h'
theorem F9 (l:List Int):ag prog W0 94 [.sl 3 (l.map (.int .i64))] (.int .i64 (orL l)):=by
 refine al [2] [] func94 rfl rfl ntmps94 rfl rfl (.int _ _) λhs σ=>?_
 have hl:=(aH (hs _ (List.mem_cons_self ..))).1
 simp only[go_sem,simprocAttr]
 refine ae.upto [3,6,7] (.of (by kernel_rfl)) l.length (λi A=>A.env 8= .int .i64 i∧A.st=σ∧orL (l.drop i)=orL l) 0 (Nat.zero_le _) ?_ λi B hi ⟨h8,hst,hI⟩=>?_
 ·simp only[go_sem,simprocAttr]
  all_goals simp
 simp only[go_sem,simprocAttr,h8,hst,List.length_map]
 refine⟨λhc=>⟨hc,?_⟩,λhc=>ar ?_⟩
 ·obtain⟨a,ha⟩:=get_some hc
  obtain⟨hlt,hae⟩:=List.getElem?_eq_some_iff.1 ha
  simp only[av ha]
  simp only[go_sem,simprocAttr,h8,hst]
  rw[List.drop_eq_getElem_cons hlt,hae]at hI
  refine⟨λhq=>ar (by rw[←hI,orL,if_pos hq]),λhq=>⟨hc,ah hc hl,?_⟩⟩
  rw[←hI,orL,if_neg (by simpa using hq)]
 ·rw[List.drop_eq_nil_of_le hc]at hI
  exact hI
theorem xr (s:List UInt8)(c:UInt8):ag prog W0 277 [.str s,.int .u8 c.toNat] (.int .i64 (aO c s)):=by
 refine OS (e:=Extern.BytealgIndexByte.indexByte) func277 (by kernel_rfl) (by kernel_rfl) (by kernel_rfl) (by kernel_rfl) λw C vs hl hv=>?_
 obtain⟨x,y,rfl⟩: ∃x y,vs=[x,y]:=by
  match vs,hl with
  |[x,y],_=>exact⟨x,y,rfl⟩
 obtain⟨hx,_⟩:=(hv 0 _ x rfl rfl).gE
 have hy:=(hv 1 _ y rfl rfl).cF
 subst hx hy
 refine⟨_,Lib.run_indexByteString _ _ w,?_⟩
 have e:Lib.indexByte s (c.toNat:Int).toNat.toUInt8=aO c s:=by rw[show(c.toNat:Int).toNat.toUInt8=c by simp];exact oB s c
 rw[show(ByteArray.mk s.toArray).data.toList=s from rfl,e]
 exact .one rfl (.int _ _)
theorem wE (s:List UInt8)(c:UInt8):ag prog W0 271 [.str s,.int .u8 c.toNat] (.int .i64 (aO c s)):=by
 refine al [4] [] func271 rfl rfl ntmps271 rfl rfl (.int _ _) λhs σ=>?_
 simp only[go_sem,simprocAttr]
 refine ak.fn (xr s c) ?_
 simp only[go_sem,simprocAttr]
theorem zK (s:List UInt8)(c:UInt8):ag prog W0 261 [.str s,.str [c]] (.int .i64 (aO c s)):=by
 refine al [4] [] func261 rfl rfl ntmps261 rfl rfl (.int _ _) λhs σ=>?_
 simp only[go_sem,simprocAttr]
 refine⟨λh=>ar (by rw[←h];simp[aO,List.findIdx?_cons]),λh=>ak.fn (wE s c) ?_⟩
 simp only[go_sem,simprocAttr]
theorem Ht (s:List UInt8)(c:UInt8):ag prog W0 262 [.str s,.str [c]] (.int .i64 (aO c s)):=by
 refine al [4] [] func262 rfl rfl ntmps262 rfl rfl (.int _ _) λhs σ=>?_
 simp only[go_sem,simprocAttr]
 refine ak.fn (zK s c) ?_
 simp only[go_sem,simprocAttr]
theorem zO (s:List UInt8)(c:UInt8):ag prog W0 237 [.str s,.str [c]] (.bool (s.contains c)):=by
 refine al [4] [] func237 rfl rfl ntmps237 rfl rfl (.bool _) λhs σ=>?_
 simp only[go_sem,simprocAttr]
 refine ak.fn (Ht s c) ?_
 simp only[go_sem,simprocAttr]
 exact ai (Au s c)
theorem MX (s:List UInt8)(c:UInt8):ag prog W0 234 [.str s,.str [c]] (si c s):=by
 refine al [4,5,6] [] func234 rfl rfl ntmps234 rfl rfl (vS c s) λhs σ=>?_
 have hl:s.length≤maxLen:=cT (hs _ (by simp))
 simp only[go_sem,simprocAttr]
 refine ak.fn (zK s c) ?_
 simp only[go_sem,simprocAttr]
 refine⟨λh=>?_,λh=>?_⟩
 ·obtain⟨i,hi,hg,hlt⟩:=(gG c s).resolve_left (λe=>by rw[e.1]at h;simp at h)
  rw[hi]
  have hw:IntKind.i64.wrap ((i:Int)+1)=((i+1:Nat):Int):=iV hlt hl
  simp only[go_sem,simprocAttr,hw]
  refine⟨.of (by kernel_rfl),by omega,by omega,?_⟩
  rw[si,JI,EW,hi,if_pos (by omega),if_pos (by omega),Int.toNat_natCast,decide_eq_true (by omega)]
  exact .refl _
 ·have h:=h
  simp at h
  rw[si,JI,EW,if_neg (by omega),if_neg (by omega),decide_eq_false (by omega)]
  exact .refl _
theorem O2 (s:List UInt8)(c:UInt8):ag prog W0 196 [.str s,.str [c]] (si c s):=by
 refine al [4,5,6] [] func196 rfl rfl ntmps196 rfl rfl (vS c s) λhs σ=>?_
 simp only[go_sem,simprocAttr]
 refine ak.fn (MX s c) ?_
 simp only[go_sem,simprocAttr,si]
theorem ql (s:List UInt8)(c:UInt8):ag prog W0 235 [.str s,.int .u8 c.toNat] (.int .i64 (lastOf c s)):=by
 refine al [4] [] func235 rfl rfl ntmps235 rfl rfl (.int _ _) λhs σ=>?_
 have hsl:s.length≤9223372036854775807:=cT (hs _ (by simp))
 simp only[go_sem,simprocAttr]
 refine ae.cu [0,1] (.of (by kernel_rfl)) (λk A=>A.env 5= .int .i64 ((k:Int)-1)∧A.st=σ∧k≤s.length∧lastOf c s=iY c s k) s.length ?_ λk B ⟨h5,hst,hk,hI⟩=>?_
 ·simp only[go_sem,simprocAttr]
  exact⟨by rw[aE (by omega)],rfl⟩
 simp only[go_sem,simprocAttr,h5,hst]
 refine⟨λhc=>?_,λhc=>?_⟩
 ·obtain⟨k,rfl⟩: ∃j,k=j+1:=⟨k-1,by omega⟩
  have e:(((k+1:Nat):Int)-1)=(k:Int):=by omega
  simp only[go_sem,simprocAttr,e]
  obtain⟨x,hx⟩:=get_some (show k<s.length by omega)
  simp only[hx,Option.getD_some]
  refine⟨by omega,λh=>ar ?_,λh=>.here k (by omega) ?_⟩
  ·rw[hI,iY,if_pos (by rw[hx];congr 1)]
  ·simp only[go_sem,simprocAttr,hst]
   refine⟨by rw[aE (by omega)],by omega,?_⟩
   rw[hI,iY,if_neg (by rw[hx];simpa using h)]
 ·have:k=0:=by omega
  subst this
  exact ar (by rw[hI];rfl)
theorem pT (s:List UInt8)(c:UInt8):ag prog W0 197 [.str s,.int .u8 c.toNat] (.int .i64 (lastOf c s)):=by
 refine al [4] [] func197 rfl rfl ntmps197 rfl rfl (.int _ _) λhs σ=>?_
 simp only[go_sem,simprocAttr]
 refine ak.fn (ql s c) ?_
 simp only[go_sem,simprocAttr]
theorem rF (s:List UInt8)(c:UInt8):ag prog W0 279 [.str s,.int .u8 c.toNat] (.str (s.dropWhile (· ==c))):=by
 refine al [4] [] func279 rfl rfl ntmps279 rfl rfl (.str _) λhs σ=>?_
 simp only[go_sem,simprocAttr]
 refine ae.cu [1] (.of (by kernel_rfl)) (λk A=>∃ x,A.env 0= .str x∧A.st=σ∧k=x.length∧x.dropWhile (· ==c)=s.dropWhile (· ==c)) s.length ⟨s,?_⟩ λk B ⟨x,h0,hst,hk,hI⟩=>?_
 ·simp only[go_sem,simprocAttr]
 cases x with
 |nil=>
  simp only[go_sem,simprocAttr,h0,hst]
  exact fj hI
 |cons d r=>
  simp only[go_sem,simprocAttr,h0,hst]
  refine⟨λh=>.here r.length (by simp[hk]) ⟨r,?_⟩,λh=>fj ?_⟩
  ·simp only[go_sem,simprocAttr,hst]
   rw[←hI,List.dropWhile_cons,if_pos (by have h:=h;simp at h ⊢;exact UInt8.toNat_inj.1 (by omega))]
  ·rw[←hI,List.dropWhile_cons,if_neg (by have h:=h;simp at h ⊢;intro e;subst e;exact h rfl)]
theorem xH (s:List UInt8)(c:UInt8)(hc:c.toNat<128):ag prog W0 275 [.str s,.str [c]] (.str (s.dropWhile (· ==c))):=by
 refine al [4] [] func275 rfl rfl ntmps275 rfl rfl (.str _) λhs σ=>?_
 cases s with
 |nil=>simp only[go_sem,simprocAttr];exact .refl _
 |cons d r=>
  have hc':((c.toNat:Int)<128):=by omega
  simp only[go_sem,simprocAttr,hc']
  refine ak.fn (rF (d::r) c) ?_
  simp only[go_sem,simprocAttr]
end Go.Proofs.Tryz
end
section
namespace Go.Av
def z6 (c:UInt8):Int:=if c.toNat=126 then-1 else if cE c then c.toNat else c.toNat+256
def rkP :List UInt8→Int
 |[]=>0
 |c::_=>if aI c then 0 else z6 c
theorem Bt {c:UInt8}(h:cE c=true):65≤c.toNat∧c.toNat≤122:=by
 simp only[cE,iz,Bool.or_eq_true,Bool.and_eq_true,decide_eq_true_eq]at h
 omega
theorem mY (c:UInt8)(h:aI c=false):(rk [c]= -1∧rkP [c]= -1∧c.toNat=126)∨(rk [c]=1+c.toNat∧rkP [c]=c.toNat∧65≤c.toNat∧c.toNat≤122)∨(rk [c]=300+c.toNat∧rkP [c]=256+c.toNat∧True):=by
 simp only[rk,rkP,h,Bool.false_eq_true,if_false,ri,z6]
 by_cases h1:c.toNat=126
 ·left;simp[h1]
 ·right
  simp only[h1,if_false]
  cases h2:cE c with
  |true=>left;simp only[if_true,true_and];exact Bt h2
  |false=>right;simp only[Bool.false_eq_true,if_false,true_and,and_true];omega
theorem Cd (a:List UInt8):(rk a=0∧rkP a=0)∨ ∃c r,a=c::r∧aI c=false∧rk a=rk [c]∧rkP a=rkP [c]:=by
 cases a with
 |nil=>exact .inl ⟨rfl,rfl⟩
 |cons c r=>
  cases h:aI c with
  |true=>left;simp[rk,rkP,h]
  |false=>right;exact⟨c,r,rfl,h,rfl,rfl⟩
theorem Ci (a b:List UInt8):sgn (rkP a) (rkP b)=sgn (rk a) (rk b):=by
 have key:(rkP a<rkP b↔rk a<rk b)∧(rkP a>rkP b↔rk a>rk b):=by
  rcases Cd a with⟨a1,a2⟩|⟨c,r,_,hc,a1,a2⟩<;>rcases Cd b with⟨b1,b2⟩|⟨d,r',_,hd,b1,b2⟩
  ·rw[a1,a2,b1,b2];simp
  ·rcases mY d hd with h|h|h<;>rw[a1,a2,b1,b2,h.1,h.2.1]<;>omega
  ·rcases mY c hc with h|h|h<;>rw[a1,a2,b1,b2,h.1,h.2.1]<;>omega
  ·have hc8:=c.toNat_lt
   have hd8:=d.toNat_lt
   rcases mY c hc with h|h|h<;>rcases mY d hd with h'|h'|h'<;>rw[a1,a2,b1,b2,h.1,h.2.1,h'.1,h'.2.1]<;>omega
 unfold sgn
 simp only[key.1,key.2]
theorem yJ {a b:Int}:sgn a b=0↔a=b:=⟨nZ,λh=>by rw[h,mm]⟩
theorem AH (a b:List UInt8):rkP a=rkP b↔rk a=rk b:=by rw[←yJ,Ci,yJ]
theorem sM (a:List UInt8):rkP a=0↔rk a=0:=AH a []
theorem xP {a:List UInt8}(h:rk a=0):bj a=a:=by
 cases a with
 |nil=>rfl
 |cons c r=>
  cases hd:aI c with
  |true=>simp[bj,hd]
  |false=>exact absurd h (by simp[rk,hd,ET])
theorem td {a:List UInt8}(h:rk a≠0):bj a.tail=bj a:=by
 obtain⟨c,r,rfl,hd⟩:=Ao h
 simp[bj,hd]
def eF (s:List UInt8):List UInt8:=(s.takeWhile aI).dropWhile (· ==48)
def gO (s:List UInt8):List UInt8:=s.dropWhile aI
theorem Ce :aI 48=true:=by decide
theorem mQ (s:List UInt8):eF s=(fb s).take (bb (fb s))∧gO s=(fb s).drop (bb (fb s)):=by
 have key: ∀s:List UInt8,s.takeWhile aI=s.take (bb s)∧s.dropWhile aI=s.drop (bb s):=λs=>by
  induction s with
  |nil=>exact⟨rfl,rfl⟩
  |cons c r ih=>
   cases h:aI c with
   |true=>
    have e:bb (c::r)=bb r+1:=by simp[bb,h]
    rw[e,List.takeWhile_cons,List.dropWhile_cons,if_pos h,if_pos h,List.take_succ_cons,List.drop_succ_cons,ih.1,ih.2]
    exact⟨rfl,rfl⟩
   |false=>
    have e:bb (c::r)=0:=by simp[bb,h]
    rw[e,List.takeWhile_cons,List.dropWhile_cons,h]
    exact⟨rfl,rfl⟩
 induction s with
 |nil=>exact⟨rfl,rfl⟩
 |cons c r ih=>
  by_cases h0:c=48
  ·subst h0
   have e1:fb (48::r)=fb r:=by simp[fb]
   rw[e1,←ih.1,←ih.2]
   refine⟨?_,?_⟩
   ·simp[eF,Ce]
   ·simp[gO,Ce]
  ·have e1:fb (c::r)=c::r:=by simp[fb,h0]
   rw[e1,←(key (c::r)).1,←(key (c::r)).2]
   refine⟨?_,rfl⟩
   unfold eF
   cases h:aI c with
   |true=>simp[List.takeWhile_cons,h,h0]
   |false=>simp[List.takeWhile_cons,h]
theorem yW (s:List UInt8):(s.take (bb s)).length=bb s:=by
 rw[List.length_take]
 have:=pJ s
 omega
theorem yu : ∀(a b:List UInt8),a.length=b.length→fA a b=e7 a b
 |[],[],_=>rfl
 |[],_::_,h=>by simp at h
 |_::_,[],h=>by simp at h
 |x::a,y::b,h=>by
  have ih:=yu a b (by simpa using h)
  unfold e7
  by_cases hxy:x=y
  ·subst hxy
   rw[if_pos rfl,←ih]
   simp[fA,Op.bytesLess]
  ·rw[if_neg hxy]
   have hne:x.toNat≠y.toNat:=λe=>hxy (UInt8.toNat_inj.1 e)
   have hb:(x==y)=false:=by simpa using hxy
   simp only[fA,Op.bytesLess,hb,Bool.false_and,Bool.or_false,List.cons.injEq,hxy,false_and,if_false,decide_eq_true_eq,UInt8.lt_iff_toNat_lt,sgn]
   by_cases hl:x.toNat<y.toNat
   ·rw[if_pos hl,if_pos (by omega)]
   ·rw[if_neg hl,if_neg (by omega),if_pos (by omega)]
def xb (x y:List UInt8):Int:=if (eF x).length≠(eF y).length then sgn (eF x).length (eF y).length else fA (eF x) (eF y)
theorem zz (s:List UInt8):(gO s).length≤s.length:=eT s
theorem nA {a b:List UInt8}(h: ¬(a=[]∧b=[])):aZ a b=if bL a b≠0 then bL a b else if xb (bj a) (bj b)≠0 then xb (bj a) (bj b)else aZ (gO (bj a)) (gO (bj b)):=by
 rw[aZ,dif_neg h]
 split
 ·rfl
 ·have ha:=mQ (bj a)
  have hb:=mQ (bj b)
  have la:(eF (bj a)).length=bb (aJ a):=by rw[ha.1];exact yW _
  have lb:(eF (bj b)).length=bb (aJ b):=by rw[hb.1];exact yW _
  have e1:(aJ a).take (bb (aJ a))=eF (bj a):=ha.1.symm
  have e2:(aJ b).take (bb (aJ b))=eF (bj b):=hb.1.symm
  have e3:(aJ a).drop (bb (aJ a))=gO (bj a):=ha.2.symm
  have e4:(aJ b).drop (bb (aJ b))=gO (bj b):=hb.2.symm
  rw[e1,e2,e3,e4,←la,←lb]
  by_cases hl:(eF (bj a)).length=(eF (bj b)).length
  ·have e:xb (bj a) (bj b)=e7 (eF (bj a)) (eF (bj b)):=by rw[xb,if_neg (by simp[hl]),yu _ _ hl]
   rw[if_neg (by simp[hl]),e]
  ·have:sgn ((eF (bj a)).length:Int) (eF (bj b)).length≠0:=λe=>hl (by have:=nZ e;omega)
   have e:xb (bj a) (bj b)=sgn ((eF (bj a)).length:Int) (eF (bj b)).length:=by rw[xb,if_pos hl]
   rw[if_pos (by simpa using hl),e,if_pos this]
theorem Bh {a b:List UInt8}(h: ¬(a=[]∧b=[])):(gO (bj a)).length+(gO (bj b)).length<a.length+b.length:=by
 rw[(mQ (bj a)).2,(mQ (bj b)).2]
 exact sd h
def e8 :Option (List UInt8×List UInt8×List UInt8)→AV
 |none=>.tup [.str [],.str [],.str [],.int .i64 3]
 |some (e,u,r)=>.tup [.str e,.str u,.str r,.int .i64 0]
theorem BN (v:Option (List UInt8×List UInt8×List UInt8)):aU 0 (e8 v):=by
 cases v<;>refine .tup λx hx=>?_<;>simp at hx<;>rcases hx with rfl|rfl|rfl|rfl<;>first|exact .str _|exact .int _ _
def ofV (beside:List UInt8)(s:List UInt8):Bool:=s.all λc=>aI c||cE c||beside.contains c
theorem Kk (s:List UInt8):ofV [43,46,126] s=s.all qX:=by
 unfold ofV
 congr 1
 funext c
 have h: ∀n:Nat,n<256→((c==(n.toUInt8))=((c.toNat:Int)==(n:Int))):=λn hn=>by
  rw[Bool.eq_iff_iff]
  simp only[beq_iff_eq]
  constructor
  ·intro e;subst e;simp[Nat.mod_eq_of_lt hn]
  ·intro e;apply UInt8.toNat_inj.1;simp[Nat.mod_eq_of_lt hn];omega
 have h1:=h 43 (by omega)
 have h2:=h 46 (by omega)
 have h3:=h 126 (by omega)
 simp only[List.contains_cons,List.contains_nil,Bool.or_false,qX]
 rw[show(43:UInt8)=(43:Nat).toUInt8 from rfl,show(46:UInt8)=(46:Nat).toUInt8 from rfl,show(126:UInt8)=(126:Nat).toUInt8 from rfl,h1,h2,h3]
 cases aI c<;>cases cE c<;>simp[Bool.or_assoc]
theorem Oh (s:List UInt8):ofV [43,46,126,45,58] s=s.all zI:=by
 unfold ofV
 congr 1
 funext c
 have h: ∀n:Nat,n<256→((c==(n.toUInt8))=((c.toNat:Int)==(n:Int))):=λn hn=>by
  rw[Bool.eq_iff_iff]
  simp only[beq_iff_eq]
  constructor
  ·intro e;subst e;simp[Nat.mod_eq_of_lt hn]
  ·intro e;apply UInt8.toNat_inj.1;simp[Nat.mod_eq_of_lt hn];omega
 have h1:=h 43 (by omega)
 have h2:=h 46 (by omega)
 have h3:=h 126 (by omega)
 have h4:=h 45 (by omega)
 have h5:=h 58 (by omega)
 simp only[List.contains_cons,List.contains_nil,Bool.or_false,zI]
 rw[show(43:UInt8)=(43:Nat).toUInt8 from rfl,show(46:UInt8)=(46:Nat).toUInt8 from rfl,show(126:UInt8)=(126:Nat).toUInt8 from rfl,show(45:UInt8)=(45:Nat).toUInt8 from rfl,show(58:UInt8)=(58:Nat).toUInt8 from rfl,h1,h2,h3,h4,h5]
 cases aI c<;>cases cE c<;>simp[Bool.or_assoc]
theorem K3 (s:List UInt8):eB s=if s.length=0∨48<s.length then none else
  (let et:=if 0≤aO 58 s then(s.take (aO 58 s).toNat,s.drop ((aO 58 s).toNat+1))else([48],s)
   match pE et.2 with
   |none=>none
   |some (u,r)=>if (decide (1≤et.1.length)&&decide (et.1.length≤9)&&et.1.all aI)&&ofV [43,46,126] r&&fo u&&ofV [43,46,126,45,58] u then some (et.1,u,r)else none):=by
 rw[eB]
 split
 ·rfl
 simp only[qd,Kk,Oh]
 by_cases hf:0≤aO 58 s
 ·simp only[hf,if_true]
  by_cases he:1≤(s.take (aO 58 s).toNat).length∧(s.take (aO 58 s).toNat).length≤9∧(s.take (aO 58 s).toNat).all aI=true
  ·simp only[he,and_self,if_true,decide_true,Bool.and_self,Bool.true_and]
   cases pE (s.drop ((aO 58 s).toNat+1))with
   |none=>rfl
   |some ur=>
    obtain⟨u,r⟩:=ur
    simp only[Bool.and_right_comm]
  ·rw[if_neg he]
   have hb:(decide (1≤(s.take (aO 58 s).toNat).length)&&decide ((s.take (aO 58 s).toNat).length≤9)&&(s.take (aO 58 s).toNat).all aI)=false:=by
    cases hx:(decide (1≤(s.take (aO 58 s).toNat).length)&&decide ((s.take (aO 58 s).toNat).length≤9)&&(s.take (aO 58 s).toNat).all aI)with
    |false=>rfl
    |true=>
     simp only[Bool.and_eq_true,decide_eq_true_eq]at hx
     exact absurd ⟨hx.1.1,hx.1.2,hx.2⟩ he
   simp only[hb,Bool.false_and,Bool.false_eq_true,if_false]
   cases pE (s.drop ((aO 58 s).toNat+1))with
   |none=>rfl
   |some ur=>rfl
 ·simp only[hf,if_false]
  have hb:(decide (1≤([48]:List UInt8).length)&&decide (([48]:List UInt8).length≤9)&&([48]:List UInt8).all aI)=true:=by decide
  simp only[hb,Bool.true_and]
  cases pE s with
  |none=>rfl
  |some ur=>
   obtain⟨u,r⟩:=ur
   simp only[Bool.and_right_comm]
end Go.Av
end
section
namespace Go.Proofs.Tryz
open Go Go.Av
set_option maxRecDepth 10000
variable {W0 :World}
theorem CI (s:List UInt8):ag prog W0 264 [.str s] (.int .i64 (rkP s)):=by
 refine al [2] [] func264 rfl rfl ntmps264 rfl rfl (.int _ _) λhs σ=>?_
 cases s with
 |nil=>
  simp only[go_sem,simprocAttr]
  refine aA.fnG (λh=>by simp at h) (r:=.bool false) ?_
  simp only[go_sem,simprocAttr]
  exact .refl _
 |cons c r=>
  have h8:=c.toNat_lt
  simp only[go_sem,simprocAttr]
  refine aA.fnG (λ_=>pK c) ?_
  simp only[go_sem,simprocAttr]
  refine⟨λh=>ar (by simp[rkP,h]),λh=>⟨λh'=>ar ?_,λh'=>ak.fn (vl c) ?_⟩⟩
  ·have:c.toNat=126:=by omega
   simp[rkP,h,z6,this]
  simp only[go_sem,simprocAttr]
  have hn: ¬c.toNat=126:=by omega
  refine⟨λhl=>ar (by simp[rkP,h,z6,hn,hl]),λhl=>ar ?_⟩
  rw[aE (by omega)]
  simp[rkP,h,z6,hn,hl]
theorem va (s:List UInt8):ag prog W0 265 [.str s] (.tup [.str (eF s),.str (gO s)]):=by
 refine al [2,3] [] func265 rfl rfl ntmps265 rfl rfl (.tup (by intro x hx;simp at hx;rcases hx with rfl|rfl<;>exact .str _)) λhs σ=>?_
 have hsl:s.length≤maxLen:=cT (hs _ (by simp))
 simp only[go_sem,simprocAttr]
 refine ae.at [0] (.of (by kernel_rfl)) (λA=>∃ i:Nat,A.env 4= .int .i64 i∧A.st=σ∧i=bb s) ?_ λB ⟨i,h4,hst,hi⟩=>?_
 ·refine ae.upto [0] (.of (by kernel_rfl)) s.length (λi A=>A.env 4= .int .i64 i∧A.st=σ∧ ∀c∈s.take i,aI c=true) 0 (Nat.zero_le _) ?_ λi B hi ⟨h4,hst,hI⟩=>?_
  ·simp only[go_sem,simprocAttr]
   simp
  simp only[go_sem,simprocAttr,h4,hst]
  refine aA.fnG (λ_=>pK _) ?_
  simp only[go_sem,simprocAttr,h4,hst]
  refine⟨λh=>?_,λh=>⟨i,rfl,?_⟩⟩
  ·obtain⟨c,hc,hd⟩:=FZ.1 h
   have hlt:=(List.getElem?_eq_some_iff.1 hc).1
   refine⟨hlt,ah hlt hsl,λd hdm=>?_⟩
   rw[aj hc]at hdm
   rcases List.mem_append.1 hdm with hdm|hdm
   ·exact hI d hdm
   ·rw[List.mem_singleton.1 hdm];exact hd
  ·exact(CX hi hI (xQ.1 h)).symm
 simp only[go_sem,simprocAttr,h4,hst]
 subst hi
 have hle:=pJ s
 refine⟨.of (by kernel_rfl),⟨Nat.zero_le _,hle⟩,?_⟩
 refine aA.fn (xH _ 48 (by decide)) ?_
 simp only[go_sem,simprocAttr,h4,hst]
 refine⟨hle,?_⟩
 have key: ∀s:List UInt8,s.takeWhile aI=s.take (bb s)∧s.dropWhile aI=s.drop (bb s):=λs=>by
  induction s with
  |nil=>exact⟨rfl,rfl⟩
  |cons c r ih=>
   cases h:aI c with
   |true=>
    have e:bb (c::r)=bb r+1:=by simp[bb,h]
    rw[e,List.takeWhile_cons,List.dropWhile_cons,if_pos h,if_pos h,List.take_succ_cons,List.drop_succ_cons,ih.1,ih.2]
    exact⟨rfl,rfl⟩
   |false=>
    have e:bb (c::r)=0:=by simp[bb,h]
    rw[e,List.takeWhile_cons,List.dropWhile_cons,h]
    exact⟨rfl,rfl⟩
 rw[eF,gO,(key s).1,(key s).2]
 exact .refl _
abbrev jX (x y:List UInt8):Option cX:=some (.cells 269 [.agg 269 [.str x,.str y]])
theorem Hc (σ:ab)(id:Nat)(a b:List UInt8)(hid:σ[id]?=some (jX a b))(hal:a.length≤maxLen)(hbl:b.length≤maxLen):
  aY prog W0 241 [.ptr 269 id 0 []] σ λr σ'=>r= .int .i64 (bL a b)∧ ∃x y,σ'=σ.set id (jX x y)∧(bL a b=0→x=bj a∧y=bj b):=by
 have hidl:id<σ.length:=(List.getElem?_eq_some_iff.1 hid).1
 refine cK [2] [] func241 rfl rfl ntmps241 rfl rfl λhs=>?_
 simp only[go_sem,simprocAttr]
 refine ae.cu [0] (.of (by kernel_rfl)) (λk A=>∃ x y,A.st=σ.set id (jX x y)∧k=x.length+y.length∧bL x y=bL a b∧bj x=bj a∧bj y=bj b∧x.length≤maxLen∧y.length≤maxLen) (a.length+b.length) ⟨a,b,?_,rfl,rfl,rfl,rfl,hal,hbl⟩ λk B ⟨x,y,hst,hk,hI,hx,hy,hxl,hyl⟩=>?_
 ·simp only[go_sem,simprocAttr]
  exact(fS hid).symm
 simp only[go_sem,simprocAttr,hst,bP hidl]
 refine⟨.of (by kernel_rfl),aA.fn (CI x) ?_⟩
 simp only[go_sem,simprocAttr,hst,bP hidl]
 refine aA.fn (CI y) ?_
 simp only[go_sem,simprocAttr,hst,bP hidl]
 refine⟨λh=>ak.fn (EP _ _) ?_,λh=>⟨λh0=>bO.ret ?_,λh0=>?_⟩⟩
 ·simp only[go_sem,simprocAttr,hst,bP hidl]
  refine bO.ret ?_
  simp only[go_sem,simprocAttr,hst]
  have hne:rk x≠rk y:=λe=>h ((AH x y).2 e)
  refine⟨_,.refl _,by simp,by rw[←hI,dp hne,Ci],x,y,rfl,λh0=>?_⟩
  rw[←hI,dp hne]at h0
  exact absurd (nZ h0) hne
 ·simp only[go_sem,simprocAttr,hst]
  have hx0:=(sM x).1 h0
  have hy0:rk y=0:=by rw[←sM,←h];exact h0
  refine⟨_,.refl _,by simp,by rw[←hI,fG hx0 hy0],x,y,rfl,λ_=>⟨by rw[←hx,xP hx0],by rw[←hy,xP hy0]⟩⟩
 ·have hx0:rk x≠0:=λe=>h0 ((sM x).2 e)
  have hxy:rk x=rk y:=(AH x y).1 h
  have hy0:rk y≠0:=by rw[←hxy];exact hx0
  obtain⟨c,r,rfl,hc⟩:=Ao hx0
  obtain⟨d,r',rfl,hd⟩:=Ao hy0
  simp only[go_sem,simprocAttr,hst,bP hidl,c7 hidl]
  refine⟨.of (by kernel_rfl),.here (r.length+r'.length) (by simp[hk];omega) ⟨r,r',?_⟩⟩
  simp only[go_sem,simprocAttr,hst,bP hidl,c7 hidl]
  simp at hxl hyl
  exact⟨by rw[←hI,fD hx0 hxy];rfl,by rw[←hx];exact td hx0,by rw[←hy];exact td hy0,by omega,by omega⟩
theorem BS (σ:ab)(id:Nat)(a b:List UInt8)(hid:σ[id]?=some (jX a b)):
  aY prog W0 242 [.ptr 269 id 0 []] σ λr σ'=>r= .int .i64 (xb a b)∧σ'=σ.set id (jX (gO a) (gO b)):=by
 have hidl:id<σ.length:=(List.getElem?_eq_some_iff.1 hid).1
 refine cK [2] [] func242 rfl rfl ntmps242 rfl rfl λhs=>?_
 simp only[go_sem,simprocAttr,aw hid]
 refine ak.fn (va a) ?_
 simp only[go_sem,simprocAttr,aw hid]
 refine ak.fn (va b) ?_
 simp only[go_sem,simprocAttr,aw hid,aR hid,bP hidl,c7 hidl]
 refine⟨λh=>ak.fn (EP _ _) ?_,λh=>ak.fn (wj _ _) ?_⟩
 ·simp only[go_sem,simprocAttr]
  refine bO.ret ?_
  simp only[go_sem,simprocAttr]
  exact⟨_,.refl _,by simp,by rw[xb,if_pos h]⟩
 ·simp only[go_sem,simprocAttr]
  refine bO.ret ?_
  simp only[go_sem,simprocAttr]
  exact⟨_,.refl _,by simp,by rw[xb,if_neg (by simpa using h)]⟩
theorem xB (a b:List UInt8):ag prog W0 208 [.str a,.str b] (.int .i64 (aZ a b)):=by
 refine al [4] [] func208 rfl rfl ntmps208 rfl rfl (.int _ _) λhs σ=>?_
 have hal:a.length≤maxLen:=cT (hs (.str a) (by simp))
 have hbl:b.length≤maxLen:=cT (hs (.str b) (by simp))
 simp only[go_sem,simprocAttr]
 refine ae.cu [5] (.of (by kernel_rfl)) (λk A=>∃ x y,A.st=σ++[jX x y]∧k=x.length+y.length∧aZ x y=aZ a b∧x.length≤maxLen∧y.length≤maxLen) (a.length+b.length) ⟨a,b,?_,rfl,rfl,hal,hbl⟩ λk B ⟨x,y,hst,hk,hI,hxl,hyl⟩=>?_
 ·simp only[go_sem,simprocAttr]
 simp only[go_sem,simprocAttr,hst]
 refine⟨λh=>?_,λh=>?_⟩
 case refine_2=>
  have:x=[]∧y=[]:=by cases x<;>cases y<;>simp at h ⊢
  exact ar (by rw[←hI,aZ,dif_pos this])
 have hne: ¬(x=[]∧y=[]):=λ⟨e,e'⟩=>by subst e e';simp at h
 have hid:(σ++[jX x y])[σ.length]?=some (jX x y):=by simp
 refine ak.goes (by simp only[go_sem,simprocAttr,hst]) (Hc _ σ.length x y hid hxl hyl) λr σ' ⟨hr,x',y',hσ,hz⟩=>?_
 subst hr hσ
 simp only[go_sem,simprocAttr,hst]
 refine⟨λh1=>ar ?_,λh1=>?_⟩
 ·rw[←hI,nA hne,if_pos h1]
 obtain⟨rfl,rfl⟩:=hz h1
 have hid:(σ++[jX (bj x) (bj y)])[σ.length]?=some (jX (bj x) (bj y)):=by simp
 refine ak.goes (by simp only[go_sem,simprocAttr]) (BS _ σ.length _ _ hid) λr σ' ⟨hr,hσ⟩=>?_
 subst hr hσ
 simp only[go_sem,simprocAttr,hst]
 have l1:=zz (bj x)
 have l2:=zz (bj y)
 have l3:=eT (p:=λc=>!aI c) x
 have l4:=eT (p:=λc=>!aI c) y
 refine⟨λh2=>ar ?_,λh2=>.here ((gO (bj x)).length+(gO (bj y)).length) (by rw[hk];exact Bh hne) ⟨gO (bj x),gO (bj y),?_⟩⟩
 ·rw[←hI,nA hne,if_neg (by simp[h1]),if_pos h2]
 ·simp only[go_sem,simprocAttr]
  unfold bj at *
  exact⟨by rw[←hI,nA hne,if_neg (by simp[h1]),if_neg (by unfold bj;simp[h2])];rfl,by omega,by omega⟩
theorem Mf (beside s:List UInt8)(hbs: ∀c∈beside,c.toNat≤126):ag prog W0 199 [.str s,.str beside] (.bool (ofV beside s)):=by
 refine al [4] [] func199 rfl rfl ntmps199 rfl rfl (.bool _) λhs σ=>?_
 simp only[go_sem,simprocAttr]
 refine ae.cu [1,8] (.of (by kernel_rfl)) (λk A=>∃ pos,A.st=σ++[some (.iter s pos)]∧k=s.length-pos∧pos≤s.length∧ofV beside (s.take pos)=true) s.length ⟨0,?_⟩ λk B ⟨pos,hst,hk,hp,hI⟩=>?_
 ·simp only[go_sem,simprocAttr]
  simp[ofV]
 simp only[go_sem,simprocAttr,hst]
 refine⟨λhlt=>?_,λhge=>?_⟩
 ·obtain⟨c,hc⟩:=get_some hlt
  have bad:(aI c||cE c||beside.contains c)=false→ofV beside s=false:=λhd=>by
   unfold ofV;exact all_false hc hd
  rcases Nat.lt_or_ge c.toNat 128 with h8|h8
  ·rw[mj hc h8]
   have hcv:=JE c
   have hce:=Bp h8
   simp only[go_sem,simprocAttr,hcv,hce]
   refine aA.fnG (λ_=>pK c) ?_
   simp only[go_sem,simprocAttr,hcv,hce]
   refine aA.fnG (λ_=>vl c) ?_
   simp only[go_sem,simprocAttr,hcv,hce]
   refine aA.fnG (λ_=>zO beside c) ?_
   simp only[go_sem,simprocAttr,hcv,hce]
   refine⟨λhb=>ai ?_,λhb=>.here (s.length-(pos+1)) (by omega) ⟨pos+1,?_⟩⟩
   ·refine(bad ?_).symm
    simp only[Bool.or_eq_true,decide_eq_true_eq,Bool.and_eq_true,Bool.not_eq_true']at hb
    rcases hb with hb|⟨⟨h1,h2⟩,h3⟩
    ·have h1:aI c=false:=by simp[aI];omega
     have h2:cE c=false:=by simp[cE,iz];omega
     have h3:beside.contains c=false:=by
      cases hx:beside.contains c with
      |false=>rfl
      |true=>have:=hbs c (by simpa using hx);omega
     simp only[h1,h2,h3,Bool.or_false]
    ·simp only[h1,h2,h3,Bool.or_false]
   ·simp only[go_sem,simprocAttr,hst]
    refine⟨by omega,lH hI hc ?_⟩
    simp at hb
    have hb2:=hb.2
    cases hd:aI c<;>cases hl:cE c<;>cases hx:beside.contains c<;>simp_all
  ·have:=p8 hc h8
   have hd:decide ((126:Int)<((gu s pos).1:Int))=true:=decide_eq_true (by omega)
   simp only[go_sem,simprocAttr,hd]
   refine aA.fnG (λh=>by simp at h) (r:=.bool false) ?_
   simp only[go_sem,simprocAttr,hd]
   refine aA.fnG (λh=>by simp at h) (r:=.bool false) ?_
   simp only[go_sem,simprocAttr,hd]
   refine aA.fnG (λh=>by simp at h) (r:=.bool false) ?_
   simp only[go_sem,simprocAttr,hd]
   refine ai (bad ?_).symm
   have h1:aI c=false:=by simp[aI];omega
   have h2:cE c=false:=by simp[cE,iz];omega
   have h3:beside.contains c=false:=by
    cases hx:beside.contains c with
    |false=>rfl
    |true=>have:=hbs c (by simpa using hx);omega
   simp only[h1,h2,h3,Bool.or_false]
 ·have:pos=s.length:=by omega
  rw[this,List.take_length]at hI
  exact ai hI.symm
theorem jf (s:List UInt8):ag prog W0 142 [.str s] (e8 (eB s)):=by
 refine al [2,3,4,5] [] func142 rfl rfl ntmps142 rfl rfl (BN _) λhs σ=>?_
 have hsl:s.length≤maxLen:=cT (hs _ (by simp))
 have none_end:eB s=none→cR (AV.tup [.str [],.str [],.str [],.int .i64 3]) (e8 (eB s)):=λe=>by rw[e];exact .refl _
 simp only[go_sem,simprocAttr]
 refine⟨λh=>none_end ?_,λh=>?_⟩
 ·have h':s.length=0∨48<s.length:=by
   simp only[Bool.or_eq_true,beq_iff_eq,decide_eq_true_eq]at h
   rcases h with h|h
   ·left;rw[h];rfl
   ·right;omega
  rw[eB,if_pos h']
 have hlen: ¬(s.length=0∨48<s.length):=by
  simp only[Bool.or_eq_false_iff,beq_eq_false_iff_ne,decide_eq_false_iff_not]at h
  rintro(h1|h1)
  ·exact h.1 (List.length_eq_zero_iff.1 h1)
  ·exact h.2 (by omega)
 refine ak.fn (O2 s 58) ?_
 simp only[go_sem,simprocAttr,si]
 have hv: ∀e t:List UInt8,(e,t)=(if 0≤aO 58 s then(s.take (aO 58 s).toNat,s.drop ((aO 58 s).toNat+1))else([48],s))→eB s=(match pE t with
   |none=>none
   |some (u,r)=>if (decide (1≤e.length)&&decide (e.length≤9)&&e.all aI)&&ofV [43,46,126] r&&fo u&&ofV [43,46,126,45,58] u then some (e,u,r)else none):=λe t he=>by
  rw[K3,if_neg hlen,←he]<;>rfl
 refine cB.at [4] (by kernel_rfl) (λA=>∃ e t,A.env 2= .str e∧A.env 6= .str t∧A.st=σ∧t.length≤s.length∧(e,t)=(if 0≤aO 58 s then(s.take (aO 58 s).toNat,s.drop ((aO 58 s).toNat+1))else([48],s))) (λhf=>?_) (λhf=>?_) λB ⟨e,t,h2,h6,hst,htl,het⟩=>?_
 ·have hf:0≤aO 58 s:=by simpa using hf
  simp only[go_sem,simprocAttr]
  exact⟨_,_,rfl,rfl,by rw[EW,if_pos hf];simp,by rw[JI,EW,if_pos hf,if_pos hf,if_pos hf]⟩
 ·have hf: ¬0≤aO 58 s:=by simpa using hf
  simp only[go_sem,simprocAttr]
  exact⟨_,_,rfl,rfl,Nat.le_refl _,by rw[if_neg hf]⟩
 have hv:=hv e t het
 simp only[go_sem,simprocAttr,h2,h6,hst]
 refine ak.fn (pT t 45) ?_
 simp only[go_sem,simprocAttr,h2,h6,hst]
 refine cB.at [] (by kernel_rfl) (λA=>∃ u r,pE t=some (u,r)∧A.env 2= .str e∧A.env 3= .str u∧A.env 4= .str r∧A.st=σ) (λhf=>?_) (λhf=>?_) λB ⟨u,r,hrv,h2,h3,h4,hst⟩=>?_
 ·obtain⟨i,hi,hgi,hlt⟩:=(pd 45 t).resolve_left (λe=>by rw[e.1]at hf;simp at hf)
  rw[hi]
  have hw:IntKind.i64.wrap ((i:Int)+1)=((i+1:Nat):Int):=iV hlt (by omega)
  have hrv:pE t=if t.drop (i+1)=[]then none else some (t.take i,t.drop (i+1)):=by
   rw[pE,hi,if_pos (by omega)];rfl
  simp only[go_sem,simprocAttr,hw,h2,h6,hst]
  refine⟨.of (by kernel_rfl),by omega,by omega,λhb=>none_end (by rw[hv];simp only[hrv,if_pos hb]),λhb=>⟨t.take i,t.drop (i+1),?_⟩⟩
  rw[hrv,if_neg hb]
  simp
 ·have hf': ¬(0≤lastOf 45 t):=by simpa using hf
  simp only[go_sem,simprocAttr,h2,h6,hst]
  exact⟨t,[],by simp[pE,hf']⟩
 rw[hrv]at hv
 simp only at hv
 simp only[go_sem,simprocAttr,h2,h3,h4,hst]
 refine ak.fn (A4 e) ?_
 simp only[go_sem,simprocAttr,h2,h3,h4,hst]
 refine aA.fnG (λ_=>Mf [43,46,126] r (by decide)) ?_
 simp only[go_sem,simprocAttr,h2,h3,h4,hst]
 have fin: ∀b:Bool,b=(!((decide (1≤e.length)&&decide (e.length≤9)&&e.all aI)&&ofV [43,46,126] r&&fo u&&ofV [43,46,126,45,58] u))→(b=true→eB s=none)∧(b=false→eB s=some (e,u,r)):=λb hb=>by
  rw[hv]
  refine⟨λh=>if_neg ?_,λh=>if_pos ?_⟩
  ·rw[h]at hb
   intro hc
   rw[hc]at hb
   cases hb
  ·rw[h]at hb
   cases hc:(decide (1≤e.length)&&decide (e.length≤9)&&e.all aI)&&ofV [43,46,126] r&&fo u&&ofV [43,46,126,45,58] u with
   |true=>rfl
   |false=>rw[hc]at hb;cases hb
 cases u with
 |nil=>
  simp only[go_sem,simprocAttr,h2,h3,h4,hst]
  refine aA.fnG (λh=>by simp at h) (r:=.bool false) ?_
  simp only[go_sem,simprocAttr,h2,h3,h4,hst]
  refine aA.fnG (λh=>by simp at h) (r:=.bool false) ?_
  simp only[go_sem,simprocAttr,h2,h3,h4,hst]
  exact none_end ((fin true (by simp[fo])).1 rfl)
 |cons c u'=>
  simp only[go_sem,simprocAttr,h2,h3,h4,hst]
  refine aA.fnG (λ_=>pK c) ?_
  simp only[go_sem,simprocAttr,h2,h3,h4,hst]
  refine aA.fnG (λ_=>Mf [43,46,126,45,58] (c::u') (by decide)) ?_
  simp only[go_sem,simprocAttr,h2,h3,h4,hst]
  refine⟨λh=>none_end ((fin _ ?_).1 h),λh=>?_⟩
  ·simp only[fo]
   cases (decide (1≤e.length)&&decide (e.length≤9)&&e.all aI)<;>cases ofV [43,46,126] r<;>cases aI c<;>cases ofV [43,46,126,45,58] (c::u')<;>rfl
  ·rw[(fin _ (by
    simp only[fo]
    cases (decide (1≤e.length)&&decide (e.length≤9)&&e.all aI)<;>cases ofV [43,46,126] r<;>cases aI c<;>cases ofV [43,46,126,45,58] (c::u')<;>rfl)).2 h]
   exact .refl _
end Go.Proofs.Tryz
end
section
namespace Go.Proofs.Tryz
open Go Go.Av
set_option maxRecDepth 10000
variable {W0 :World}
def pn (a b:List UInt8):AV:=.tup [.int .i64 (bo a b),.bool (bk a&&bk b)]
theorem C6 (a b:List UInt8):aU 0 (pn a b):=by
 refine .tup λx hx=>?_
 simp at hx
 rcases hx with rfl|rfl
 ·exact .int _ _
 ·exact .bool _
theorem nC (a b:List UInt8):ag prog W0 157 [.str a,.str b] (pn a b):=by
 refine al [4,5] [] func157 rfl rfl ntmps157 rfl rfl (C6 _ _) λhs σ=>?_
 simp only[go_sem,simprocAttr]
 refine ak.fn (jf a) ?_
 cases h:eB a with
 |none=>
  simp only[go_sem,simprocAttr,e8]
  refine ak.fn (jf b) ?_
  cases h':eB b with
  |none=>simp only[go_sem,simprocAttr,e8];simp only[pn,bo,bk,h,h'];exact .refl _
  |some v=>obtain⟨f,v,t⟩:=v;simp only[go_sem,simprocAttr,e8];simp only[pn,bo,bk,h,h'];exact .refl _
 |some v=>
  obtain⟨e,u,r⟩:=v
  simp only[go_sem,simprocAttr,e8]
  refine ak.fn (jf b) ?_
  cases h':eB b with
  |none=>simp only[go_sem,simprocAttr,e8];simp only[pn,bo,bk,h,h'];exact .refl _
  |some v=>
   obtain⟨f,v,t⟩:=v
   simp only[go_sem,simprocAttr,e8]
   refine ak.fn (xB e f) ?_
   simp only[go_sem,simprocAttr]
   refine ak.fn (xB u v) ?_
   simp only[go_sem,simprocAttr]
   refine ak.fn (xB r t) ?_
   simp only[go_sem,simprocAttr]
   refine⟨by decide,ak.fn ((F9 [aZ e f,aZ u v,aZ r t]).bZ (.cons (.lit _ _) .nil)) ?_⟩
   simp only[go_sem,simprocAttr]
   have:orL [aZ e f,aZ u v,aZ r t]=bo a b:=by
    simp only[bo,h,h',orL]
    by_cases h1:aZ e f=0
    ·by_cases h2:aZ u v=0
     ·by_cases h3:aZ r t=0
      ·simp[h1,h2,h3]
      ·simp[h1,h2,h3]
     ·simp[h1,h2]
    ·simp[h1]
   rw[this,pn]
   simp only[bk,h,h']
   exact .refl _
theorem pv (a b:List UInt8):ag prog W0 103 [.str a,.str b] (.bool (bm a b)):=by
 refine al [4] [] func103 rfl rfl ntmps103 rfl rfl (.bool _) λhs σ=>?_
 simp only[go_sem,simprocAttr]
 refine ak.fn (nC a b) ?_
 simp only[go_sem,simprocAttr,pn]
 exact ai (by rw[bm])
theorem zp (rel:Int)(a b:List UInt8):ag prog W0 181 [.int .i64 rel,.str a,.str b] (.bool (ec rel a b)):=by
 refine al [6] [] func181 rfl rfl ntmps181 rfl rfl (.bool _) λhs σ=>?_
 simp only[go_sem,simprocAttr]
 refine⟨λh0=>ak.fn (jf a) ?_,λh0=>ak.fn (nC a b) ?_⟩
 ·cases h:eB a with
  |none=>simp only[go_sem,simprocAttr,e8];exact ai (by rw[ec,if_pos h0,bk,h];rfl)
  |some v=>obtain⟨e,u,r⟩:=v;simp only[go_sem,simprocAttr,e8];exact ai (by rw[ec,if_pos h0,bk,h];rfl)
 simp only[go_sem,simprocAttr,pn]
 refine⟨λhb=>ai (by rw[ec,if_neg h0,hb];rfl),λhb=>?_⟩
 have hh:ec rel a b=(if rel=1 then decide (bo a b<0)else if rel=2 then decide (bo a b≤0)else if rel=3 then bo a b==0
   else if rel=4 then decide (0≤bo a b)else if rel=5 then decide (0<bo a b)else false):=by rw[ec,if_neg h0,if_pos hb]
 refine⟨λh1=>ai (by rw[hh,if_pos h1]),λh1=>⟨λh2=>ai (by rw[hh,if_neg h1,if_pos h2]),λh2=>⟨λh3=>ai (by rw[hh,if_neg h1,if_neg h2,if_pos h3]),λh3=>⟨λh4=>ai (by rw[hh,if_neg h1,if_neg h2,if_neg h3,if_pos h4]),λh4=>⟨λh5=>ai (by rw[hh,if_neg h1,if_neg h2,if_neg h3,if_neg h4,if_pos h5]),λh5=>ai (by rw[hh,if_neg h1,if_neg h2,if_neg h3,if_neg h4,if_neg h5])⟩⟩⟩⟩⟩
theorem xe (s:List UInt8):ag prog W0 143 [.str s] (.bool (dc s)):=by
 refine al [2] [] func143 rfl rfl ntmps143 rfl rfl (.bool _) λhs σ=>?_
 have hsl:s.length≤maxLen:=cT (hs _ (by simp))
 simp only[go_sem,simprocAttr]
 refine⟨λh=>ai ?_,λh=>?_⟩
 ·have:(decide (2≤s.length)&&decide (s.length≤24))=false:=by
   simp only[Bool.or_eq_true,decide_eq_true_eq]at h
   simp only[Bool.and_eq_false_iff,decide_eq_false_iff_not]
   omega
  rw[dc,this];rfl
 have hlen:(decide (2≤s.length)&&decide (s.length≤24))=true:=by
  simp only[Bool.or_eq_false_iff,decide_eq_false_iff_not]at h
  simp only[Bool.and_eq_true,decide_eq_true_eq]
  omega
 refine ae.cu [15] (.of (by kernel_rfl)) (λk A=>∃ pos,A.st=σ++[some (.iter s pos)]∧k=s.length-pos∧pos≤s.length∧ ∀j c,j<pos→s[j]?=some c→iB j c=true) s.length ⟨0,?_⟩ λk B ⟨pos,hst,hk,hp,hI⟩=>?_
 ·simp only[go_sem,simprocAttr]
  simp
 simp only[go_sem,simprocAttr,hst]
 refine⟨λhlt=>?_,λhge=>?_⟩
 ·obtain⟨c,hc⟩:=get_some hlt
  have bad:iB pos c=false→dc s=false:=λhd=>by
   rw[dc,nr hc hd,Bool.and_false]
  rcases Nat.lt_or_ge c.toNat 128 with h8|h8
  ·rw[mj hc h8]
   simp only[go_sem,simprocAttr]
   refine⟨λhb=>ai ?_,λhb=>.here (s.length-(pos+1)) (by omega) ⟨pos+1,?_⟩⟩
   ·refine(bad ?_).symm
    revert hb
    simp only[iB,iz,aI]
    simp
    omega
   ·simp only[go_sem,simprocAttr,hst]
    refine⟨by omega,λj d hj hd=>?_⟩
    rcases Nat.lt_succ_iff_lt_or_eq.1 hj with hj|rfl
    ·exact hI j d hj hd
    ·have e:d=c:=by rw[hd]at hc;exact Option.some.inj hc
     subst e
     revert hb
     simp only[iB,iz,aI]
     simp
     omega
  ·have:=p8 hc h8
   refine⟨λhb=>ai (bad ?_).symm,λhb=>?_⟩
   ·simp only[iB,iz,aI]
    simp
    omega
   ·simp at hb
    omega
 ·have:pos=s.length:=by omega
  have:iK iB 0 s=true:=jI.2 λj c hj=>by rw[Nat.zero_add];exact hI j c (by have:=(List.getElem?_eq_some_iff.1 hj).1;omega) hj
  exact ai (by rw[dc,this,hlen];rfl)
theorem tQ (a:Atom):ag prog W0 180 [aN a] (.bool (bT a)):=by
 refine al [2] [1] func180 rfl rfl ntmps180 rfl rfl (.bool _) λhs σ=>?_
 simp only[go_sem,simprocAttr,aN]
 refine ak.fn (xe a.name) ?_
 simp only[go_sem,simprocAttr,aN]
 have low:(!dc a.name||decide (a.rel<0)||decide (5<a.rel))=true→bT a=false:=λh=>by
  unfold bT
  cases hn:dc a.name with
  |false=>rfl
  |true=>
   rw[hn]at h
   simp only[Bool.not_true,Bool.false_or,Bool.or_eq_true,decide_eq_true_eq]at h
   rw[if_neg (by omega)]
   have:(decide (1≤a.rel)&&decide (a.rel≤5))=false:=by
    simp only[Bool.and_eq_false_iff,decide_eq_false_iff_not];omega
   rw[this];rfl
 have high:(!dc a.name||decide (a.rel<0)||decide (5<a.rel))=false→bT a=if a.rel=0 then a.ver==[]else bk a.ver:=λh=>by
  simp only[Bool.or_eq_false_iff,Bool.not_eq_false',decide_eq_false_iff_not]at h
  rw[bT,h.1.1,Bool.true_and]
  split
  ·rfl
  ·have h1:decide (1≤a.rel)=true:=decide_eq_true (by omega)
   have h2:decide (a.rel≤5)=true:=decide_eq_true (by omega)
   rw[h1,h2];rfl
 refine⟨λh=>ai (low h).symm,λh=>⟨λh0=>ai (by rw[high h,if_pos h0]),λh0=>ak.fn (jf a.ver) ?_⟩⟩
 have hm:=high h
 rw[if_neg h0]at hm
 cases h:eB a.ver with
 |none=>simp only[go_sem,simprocAttr,e8];exact ai (by rw[hm,bk,h];rfl)
 |some v=>obtain⟨e,u,r⟩:=v;simp only[go_sem,simprocAttr,e8];exact ai (by rw[hm,bk,h];rfl)
end Go.Proofs.Tryz
end
section
namespace Go.Av
structure aK (σ st:ab)(v:AV)(e:TypeId)(xs:List AV):Prop where
 bld:Bld st v e xs
 ext:Ext σ st
 tok: ∀t,eW v=some t→σ.length≤t
theorem aK.nil {σ st:ab}(h:Ext σ st)(e:TypeId):aK σ st .az e []:=⟨.inl ⟨rfl,rfl⟩,h,λt h=>by cases h⟩
theorem aK.app {σ st st':ab}{v v':AV}{e:TypeId}{xs zs:List AV}(h:aK σ st v e xs)(ha:App st v e zs v' st'):aK σ st' v' e zs:=by
 have hl:=h.ext.le
 refine⟨ha.bld,?_,λt ht=>?_⟩
 ·have hl':=ha.len
  refine List.ext_getElem? λi=>?_
  rw[List.getElem?_take]
  by_cases hi:i<σ.length
  ·rw[if_pos hi,ha.old i (by omega) (λe=>by have:=h.tok i e;omega)]
   have e:=congrArg (·[i]?) h.ext
   simpa[List.getElem?_take,hi]using e
  ·rw[if_neg hi,List.getElem?_eq_none (by omega)]
 ·rcases ha.tok with e|⟨u,e,hu⟩
  ·exact h.tok t (by rw[←e];exact ht)
  ·rw[e]at ht;cases ht;omega
theorem aK.more {σ st:ab}{v:AV}{e:TypeId}{xs:List AV}(h:aK σ st v e xs)(l:ab):aK σ (st++l) v e xs:=by
 refine⟨?_,h.ext.app l,h.tok⟩
 rcases h.bld with h1|h1|⟨t,h1,h2⟩
 ·exact .inl h1
 ·exact .inr (.inl h1)
 ·exact .inr (.inr ⟨t,h1,by rw[List.getElem?_append_left ((List.getElem?_eq_some_iff.1 h2).1)];exact h2⟩)
theorem aK.bZ {σ st:ab}{v:AV}{e:TypeId}{xs:List AV}(h:aK σ st v e xs):cR v (.sl e xs):=by
 rcases h.bld with⟨rfl,rfl⟩|rfl|⟨t,rfl,_⟩
 ·exact .az _
 ·exact .lit _ _
 ·exact .own _ _ _
theorem Ext.eq {σ st:ab}(h:Ext σ st):st=σ++st.drop σ.length:=by
 have:=List.take_append_drop σ.length st
 rw[h]at this
 exact this.symm
theorem Ext.trans {σ st st':ab}(h:Ext σ st)(h':Ext st st'):Ext σ st':=by
 rw[h'.eq];exact h.app _
theorem aK.on {σ st st':ab}{v:AV}{e:TypeId}{xs:List AV}(h:aK σ st v e xs)(h':Ext st st'):aK σ st' v e xs:=by
 rw[h'.eq];exact h.more _
theorem aK.len {σ st:ab}{v:AV}{e:TypeId}{xs:List AV}(h:aK σ st v e xs):lX v= .int .i64 xs.length:=by
 rcases h.bld with⟨rfl,rfl⟩|rfl|⟨t,rfl,_⟩<;>rfl
theorem aK.fO {σ st:ab}{v:AV}{e:TypeId}{xs:List AV}(h:aK σ st v e xs)(P:Program)(t:TypeId):fO P t v=((elT P t).isSome=true):=by
 rcases h.bld with⟨rfl,rfl⟩|rfl|⟨t,rfl,_⟩<;>rfl
theorem aK.notM {σ st:ab}{v:AV}{e:TypeId}{xs:List AV}(h:aK σ st v e xs):cJ v:=by
 rcases h.bld with⟨rfl,rfl⟩|rfl|⟨t,rfl,_⟩<;>trivial
theorem aK.ok {σ st:ab}{v:AV}{e:TypeId}{xs:List AV}(h:aK σ st v e xs)(g:Option Bool):okM g v=True:=bR h.notM
theorem aK.un {σ st:ab}{v:AV}{e:TypeId}{xs:List AV}(h:aK σ st v e xs):unm v=v:=cp h.notM
attribute [go_sem] List.range'_succ List.range'_zero
theorem Sub.Uq {α:Type}{f g:α→AV}{e:TypeId}(l:List α)(h: ∀a∈l,Sub (f a) (g a)):Sub (.sl e (l.map f)) (.sl e (l.map g)):=by
 refine .sls (by simp) λi x y hx hy=>?_
 rw[List.getElem?_map,Option.map_eq_some_iff]at hx hy
 obtain⟨a,ha,rfl⟩:=hx
 obtain⟨b,hb,rfl⟩:=hy
 rw[ha]at hb
 cases hb
 exact h a (List.mem_of_getElem? ha)
theorem fh.sl (st:ab)(e:TypeId)(ys:List AV):fh st (.sl e ys) e ys:=.inl rfl
theorem fh.lit (st:ab)(e:TypeId)(ys:List AV):fh st (.lit e ys) e ys:=.inl rfl
theorem ae.ats {P:Program}{W0:World}{n:Nat}{fz:List Nat}{A:aa}{c:Code}{id:Nat}{Q:Exit→aa→Prop}(ks:List Nat)(hks:Kept fz c .mk ks)(R:aa→Prop)(h:ae P W0 n fz c .mk (dC id (bU R Q)) .mk A)(hR: ∀B,R B→Q .normal (eC ks A B)):ae P W0 n fz c .mk (dC id Q) .mk A:=by
 have e:dC id (bU (Q .normal) Q)=dC id Q:=by
  funext e A
  cases e<;>rfl
 rw[←e]
 exact .at ks hks R h hR
def cg (l:List Clause):Int:=
 if 12<l.length∨l.any (λc=>decide (6<c.length))=true then 12 else if l.any (λc=>decide (c.length=0)||c.any λa=>!bT a)=true then 3 else 0
def single (l:List Atom):List Clause:=l.map λa=>[a]
def bG (p:ia):Atom:=⟨p.name,if p.ver=[]then 0 else 3,p.ver⟩
def aL (p:Pkg):Int:=if (!dc p.name|| !bk p.ver)=true then 3 else orL [cg p.pre,cg p.dep,cg p.rcm,cg (single p.con),cg (single p.brk),cg (single (p.dI.map bG))]
def cG :List Pkg→List (List UInt8)→List (List UInt8)
 |[],acc=>acc
 |p::r,acc=>cG r (if acc.any (λx=>p.name==x)then acc else acc++[p.name])
def cL (p q:Pkg):Bool:=q.name==p.name&&bm q.ver p.ver
def jz :List Pkg→List Pkg→Bool
 |_,[]=>false
 |bef,p::r=>bef.any (cL p)||jz (bef++[p]) r
def bg (l:List Pkg):Int:=
 if 24<l.length then 12 else if orL (l.map aL)≠0 then orL (l.map aL)else if jz [] l=true then 4 else if 10<(cG l []).length then 12 else 0
end Go.Av
end
section
namespace Go.Proofs.Tryz
open Go Go.Av
set_option maxRecDepth 10000
variable {W0 :World}
def jN (a:Atom):AV:=.lit 81 [aN a]
theorem cJ.atom (a:Atom):cJ (aN a):=trivial
theorem cJ.atoms (l:List Atom):cJ (aC l):=trivial
@[go_sem] theorem Ll (g:Option Bool)(l:List Atom):okM g (aC l)=True:=eq_true trivial
@[go_sem] theorem Lo (l:List Atom):unm (aC l)=aC l:=rfl
@[go_sem] theorem Il (P:Program)(t:TypeId)(l:List Atom):bq P t (aC l)=cD P t:=rfl
@[go_sem] theorem Iy (g:Option Bool)(l:List Clause):okM g (ax l)=True:=eq_true trivial
@[go_sem] theorem IA (l:List Clause):unm (ax l)=ax l:=rfl
@[go_sem] theorem EI (P:Program)(t:TypeId)(l:List Clause):bq P t (ax l)=cD P t:=rfl
@[go_sem] theorem LZ (g:Option Bool)(l:List ia):okM g (cn l)=True:=eq_true trivial
@[go_sem] theorem LM (l:List ia):unm (cn l)=cn l:=rfl
@[go_sem] theorem Ih (P:Program)(t:TypeId)(l:List ia):bq P t (cn l)=cD P t:=rfl
@[go_sem] theorem M7 (g:Option Bool)(l:List Pkg):okM g (aT l)=True:=eq_true trivial
@[go_sem] theorem MR (l:List Pkg):unm (aT l)=aT l:=rfl
@[go_sem] theorem JX (P:Program)(t:TypeId)(l:List Pkg):bq P t (aT l)=cD P t:=rfl
theorem jl (l:List Atom):Sub (.sl 72 (l.map jN)) (ax (single l)):=by
 rw[ax,single,List.map_map]
 exact .Uq l λa _=>.lit _ _
theorem gK {α:Type}{f:α→AV}{e:TypeId}(h: ∀a,aU 0 (f a))(l:List α):aU 0 (.sl e (l.map f)):=.sl λx hx=>by
 obtain⟨a,_,rfl⟩:=List.mem_map.1 hx
 exact h a
theorem pf (a:Atom):aU 0 (aN a):=.agg λx hx=>by
 simp at hx
 rcases hx with rfl|rfl|rfl
 ·exact .str _
 ·exact .int _ _
 ·exact .str _
theorem mX (l:List Atom):aU 0 (aC l):=gK pf l
theorem dt (l:List Clause):aU 0 (ax l):=gK mX l
theorem s5 (a:ia):aU 0 (cV a):=.agg λx hx=>by
 simp at hx
 rcases hx with rfl|rfl<;>exact .str _
theorem Em (l:List ia):aU 0 (cn l):=gK s5 l
theorem r7 (p:Pkg):aU 0 (au p):=.agg λx hx=>by
 simp at hx
 rcases hx with rfl|rfl|rfl|rfl|rfl|rfl|rfl|rfl|rfl
 ·exact .str _
 ·exact .str _
 ·exact dt _
 ·exact dt _
 ·exact dt _
 ·exact mX _
 ·exact mX _
 ·exact Em _
 ·exact .bool _
theorem iX (l:List Pkg):aU 0 (aT l):=gK r7 l
theorem tJ (l:List Atom)(hl:l.length≤1048576):ag prog W0 144 [aC l] (ax (single l)):=by
 refine al [2] [5] func144 rfl rfl ntmps144 rfl rfl (dt _) λhs σ=>?_
 simp only[go_sem,simprocAttr,aC]
 refine ae.at [6,7] (.of (by kernel_rfl)) (λA=>∃ v,A.env 3=v∧aK σ A.st v 72 (l.map jN)) ?_ λB ⟨v,h3,hb⟩=>?_
 ·refine ae.upto [6,7] (.of (by kernel_rfl)) l.length (λi A=>∃ v,A.env 3=v∧A.env 8= .int .i64 i∧aK σ A.st v 72 ((l.take i).map jN)) 0 (Nat.zero_le _) ?_ λi B hi ⟨v,h3,h8,hb⟩=>?_
  ·simp only[go_sem,simprocAttr]
   exact⟨_,rfl,aK.nil (.refl _) _⟩
  simp only[go_sem,simprocAttr,h3,h8,hb.ok,hb.un,List.length_map]
  refine⟨λhc=>⟨hc,?_⟩,λhc=>?_⟩
  ·obtain⟨a,ha⟩:=get_some hc
   simp only[av ha]
   simp only[go_sem,simprocAttr,aN,h3,h8,hb.ok,hb.un]
   refine bM.own 1048576 (by kernel_rfl) (hb.more _).bld (.lit _ _ _) (by simp;omega) λv' σ' ha'=>?_
   have hb':=(hb.more _).app ha'
   simp only[go_sem,simprocAttr,h3,h8,hb.ok,hb.un,hb'.ok,hb'.un]
   refine⟨hc,_,rfl,ah hc (by rw[aq];omega),?_⟩
   rw[aj ha,List.map_append]
   exact hb'
  ·rw[List.take_of_length_le hc]at hb
   exact⟨_,rfl,hb⟩
 simp only[go_sem,simprocAttr,h3,hb.ok,hb.un]
 exact⟨hb.bZ.trans (.sub (jl l)),hb.ext⟩
theorem n9 (l:List Atom)(hl:l.length≤1048576):ag prog W0 123 [aC l] (ax (single l)):=by
 refine al [2] [5] func123 rfl rfl ntmps123 rfl rfl (dt _) λhs σ=>?_
 simp only[go_sem,simprocAttr,aC]
 refine ae.at [6,7] (.of (by kernel_rfl)) (λA=>∃ v,A.env 3=v∧aK σ A.st v 72 (l.map jN)) ?_ λB ⟨v,h3,hb⟩=>?_
 ·refine ae.upto [6,7] (.of (by kernel_rfl)) l.length (λi A=>∃ v,A.env 3=v∧A.env 8= .int .i64 i∧aK σ A.st v 72 ((l.take i).map jN)) 0 (Nat.zero_le _) ?_ λi B hi ⟨v,h3,h8,hb⟩=>?_
  ·simp only[go_sem,simprocAttr]
   exact⟨_,rfl,aK.nil (.refl _) _⟩
  simp only[go_sem,simprocAttr,h3,h8,hb.ok,hb.un,List.length_map]
  refine⟨λhc=>⟨hc,?_⟩,λhc=>?_⟩
  ·obtain⟨a,ha⟩:=get_some hc
   simp only[av ha]
   simp only[go_sem,simprocAttr,aN,h3,h8,hb.ok,hb.un]
   refine bM.own 1048576 (by kernel_rfl) (hb.more _).bld (.lit _ _ _) (by simp;omega) λv' σ' ha'=>?_
   have hb':=(hb.more _).app ha'
   simp only[go_sem,simprocAttr,h3,h8,hb.ok,hb.un,hb'.ok,hb'.un]
   refine⟨hc,_,rfl,ah hc (by rw[aq];omega),?_⟩
   rw[aj ha,List.map_append]
   exact hb'
  ·rw[List.take_of_length_le hc]at hb
   exact⟨_,rfl,hb⟩
 simp only[go_sem,simprocAttr,h3,hb.ok,hb.un]
 exact⟨hb.bZ.trans (.sub (jl l)),hb.ext⟩
theorem Da (l:List Atom):Sub (.sl 81 (l.map aN)) (aC l):=.refl _
theorem xM (l:List ia)(hl:l.length≤1048576):ag prog W0 145 [cn l] (ax (single (l.map bG))):=by
 refine al [2] [5] func145 rfl rfl ntmps145 rfl rfl (dt _) λhs σ=>?_
 simp only[go_sem,simprocAttr,cn]
 refine ae.at [7,8] (.of (by kernel_rfl)) (λA=>∃ v,A.env 3=v∧aK σ A.st v 72 (l.map λp=>jN (bG p))) ?_ λB ⟨v,h3,hb⟩=>?_
 ·refine ae.upto [7,8] (.of (by kernel_rfl)) l.length (λi A=>∃ v,A.env 3=v∧A.env 9= .int .i64 i∧aK σ A.st v 72 ((l.take i).map λp=>jN (bG p))) 0 (Nat.zero_le _) ?_ λi B hi ⟨v,h3,h8,hb⟩=>?_
  ·simp only[go_sem,simprocAttr]
   exact⟨_,rfl,aK.nil (.refl _) _⟩
  simp only[go_sem,simprocAttr,h3,h8,hb.ok,hb.un,List.length_map]
  refine⟨λhc=>⟨hc,?_⟩,λhc=>?_⟩
  ·obtain⟨a,ha⟩:=get_some hc
   simp only[av ha]
   simp only[go_sem,simprocAttr,cV,h3,h8,hb.ok,hb.un]
   refine cB.at [3,6,7,8,9] (by kernel_rfl) (λA=>A.st=B.st++[none,some (.cells 81 [aN (bG a)])]) (λh=>?_) (λh=>?_) λA hst=>?_
   ·simp only[go_sem,simprocAttr,aN,bG]
    simp only[Bool.not_eq_true',beq_eq_false_iff_ne]at h
    rw[if_neg h]
   ·simp only[go_sem,simprocAttr,aN,bG]
    simp only[Bool.not_eq_false',beq_iff_eq]at h
    rw[if_pos h]
   have hb2:aK σ A.st v 72 ((l.take i).map λp=>jN (bG p)):=by rw[hst];exact hb.more _
   simp only[go_sem,simprocAttr,h3,h8,hst,hb.ok,hb.un,aN]
   refine bM.own 1048576 (by kernel_rfl) hb2.bld (.lit _ _ _) (by simp;omega) λv' σ' ha'=>?_
   have hb':=hb2.app ha'
   simp only[go_sem,simprocAttr,h3,h8,hb.ok,hb.un,hb'.ok,hb'.un]
   refine⟨hc,_,rfl,ah hc (by rw[aq];omega),?_⟩
   rw[aj ha,List.map_append]
   exact hb'
  ·rw[List.take_of_length_le hc]at hb
   exact⟨_,rfl,hb⟩
 simp only[go_sem,simprocAttr,h3,hb.ok,hb.un]
 refine⟨hb.bZ.trans (.sub ?_),hb.ext⟩
 have:=jl (l.map bG)
 rw[List.map_map]at this
 exact this
theorem xK (l:List ia)(hl:l.length≤1048576):ag prog W0 125 [cn l] (aC (l.map bG)):=by
 refine al [2] [5] func125 rfl rfl ntmps125 rfl rfl (mX _) λhs σ=>?_
 simp only[go_sem,simprocAttr,cn]
 refine ae.at [7,8] (.of (by kernel_rfl)) (λA=>∃ v,A.env 3=v∧aK σ A.st v 81 (l.map λp=>aN (bG p))) ?_ λB ⟨v,h3,hb⟩=>?_
 ·refine ae.upto [7,8] (.of (by kernel_rfl)) l.length (λi A=>∃ v,A.env 3=v∧A.env 9= .int .i64 i∧aK σ A.st v 81 ((l.take i).map λp=>aN (bG p))) 0 (Nat.zero_le _) ?_ λi B hi ⟨v,h3,h8,hb⟩=>?_
  ·simp only[go_sem,simprocAttr]
   exact⟨_,rfl,aK.nil (.refl _) _⟩
  simp only[go_sem,simprocAttr,h3,h8,hb.ok,hb.un,List.length_map]
  refine⟨λhc=>⟨hc,?_⟩,λhc=>?_⟩
  ·obtain⟨a,ha⟩:=get_some hc
   simp only[av ha]
   simp only[go_sem,simprocAttr,cV,h3,h8,hb.ok,hb.un]
   refine cB.at [3,6,7,8,9] (by kernel_rfl) (λA=>A.st=B.st++[none,some (.cells 81 [aN (bG a)])]) (λh=>?_) (λh=>?_) λA hst=>?_
   ·simp only[go_sem,simprocAttr,aN,bG]
    simp only[Bool.not_eq_true',beq_eq_false_iff_ne]at h
    rw[if_neg h]
   ·simp only[go_sem,simprocAttr,aN,bG]
    simp only[Bool.not_eq_false',beq_iff_eq]at h
    rw[if_pos h]
   have hb2:aK σ A.st v 81 ((l.take i).map λp=>aN (bG p)):=by rw[hst];exact hb.more _
   simp only[go_sem,simprocAttr,h3,h8,hst,hb.ok,hb.un,aN]
   refine bM.own 1048576 (by kernel_rfl) hb2.bld (.lit _ _ _) (by simp;omega) λv' σ' ha'=>?_
   have hb':=hb2.app ha'
   simp only[go_sem,simprocAttr,h3,h8,hb.ok,hb.un,hb'.ok,hb'.un]
   refine⟨hc,_,rfl,ah hc (by rw[aq];omega),?_⟩
   rw[aj ha,List.map_append]
   exact hb'
  ·rw[List.take_of_length_le hc]at hb
   exact⟨_,rfl,hb⟩
 simp only[go_sem,simprocAttr,h3,hb.ok,hb.un]
 refine⟨hb.bZ.trans (.sub ?_),hb.ext⟩
 have:=Da (l.map bG)
 rw[List.map_map]at this
 exact this
theorem me {α:Type}(l:List α)(n:Nat):(((n:Nat):Int)<(l.length:Int))↔n<l.length:=by omega
theorem II (c:Clause):ag prog W0 202 [aC c] (.bool (decide (6<c.length))):=by
 refine al [2] [] func202 rfl rfl ntmps202 rfl rfl (.bool _) λhs σ=>?_
 simp only[go_sem,simprocAttr,aC,List.length_map]
 exact ai (decide_eq_decide.2 (me c 6))
theorem Hi (a:Atom):ag prog W0 204 [aN a] (.bool (!bT a)):=by
 refine al [2] [1] func204 rfl rfl ntmps204 rfl rfl (.bool _) λhs σ=>?_
 simp only[go_sem,simprocAttr,aN]
 refine ak.fn (tQ a) ?_
 simp only[go_sem,simprocAttr]
 done
theorem Gm (l:List Clause):ag prog W0 146 [ax l] (.int .i64 (cg l)):=by
 refine al [2] [] func146 rfl rfl ntmps146 rfl rfl (.int _ _) λhs σ=>?_
 have hl:=(aH (hs _ (List.mem_cons_self ..))).1
 simp only[go_sem,simprocAttr,ax,List.length_map]
 refine aA.fnG (λ_=>F0 aC cJ.atoms l (λc=>decide (6<c.length)) _ [] (λa _=>II a)) ?_
 simp only[go_sem,simprocAttr]
 have e:(decide ((12:Int)<l.length)||l.any λc=>decide (6<c.length))=decide (12<l.length∨(l.any λc=>decide (6<c.length))=true):=by
  rw[Bool.decide_or,Bool.decide_eq_true];congr 1;exact decide_eq_decide.2 (me l 12)
 rw[e]
 refine⟨λh=>ar (by rw[cg,if_pos (of_decide_eq_true h)]),λh=>?_⟩
 have hm:cg l=if l.any (λc=>decide (c.length=0)||c.any λa=>!bT a)=true then 3 else 0:=by rw[cg,if_neg (of_decide_eq_false h)]
 refine ae.upto [12,13] (.of (by kernel_rfl)) l.length (λi A=>A.env 14= .int .i64 i∧A.st=σ∧ ∀c∈l.take i,(decide (c.length=0)||c.any λa=>!bT a)=false) 0 (Nat.zero_le _) ?_ λi B hi ⟨h8,hst,hI⟩=>?_
 ·simp only[go_sem,simprocAttr]
  simp
 simp only[go_sem,simprocAttr,h8,hst,List.length_map]
 refine⟨λhc=>⟨hc,?_⟩,λhc=>?_⟩
 ·obtain⟨a,ha⟩:=get_some hc
  simp only[av ha]
  simp only[go_sem,simprocAttr,aC,h8,hst,List.length_map]
  refine aA.fnG (λ_=>I9 aN cJ.atom a (λc=>!bT c) _ [] (λa _=>Hi a)) ?_
  simp only[go_sem,simprocAttr,h8,hst]
  have e:((a.length:Int)==0)=decide (a.length=0):=by rw[Bool.eq_iff_iff];simp
  simp only[e]
  refine⟨λhb=>ar ?_,λhb=>⟨hc,ah hc hl,?_⟩⟩
  ·rw[hm,if_pos (any_true ha hb)]
  ·rw[aj ha]
   intro c hcm
   rcases List.mem_append.1 hcm with hcm|hcm
   ·exact hI c hcm
   ·rw[List.mem_singleton.1 hcm];exact hb
 ·refine ar ?_
  rw[List.take_of_length_le hc]at hI
  rw[hm,if_neg]
  intro h
  obtain⟨c,hc1,hc2⟩:=List.any_eq_true.1 h
  rw[hI c hc1]at hc2
  cases hc2
end Go.Proofs.Tryz
end
section
namespace Go.Proofs.Tryz
open Go Go.Av
set_option maxRecDepth 10000
variable {W0 :World}
theorem G3 (l:List Clause):ag prog W0 127 [ax l] (.int .i64 (cg l)):=by
 refine al [2] [8] func127 rfl rfl ntmps127 rfl rfl (.int _ _) λhs σ=>?_
 have hl:=(aH (hs _ (List.mem_cons_self ..))).1
 have hls:=(aH (hs _ (List.mem_cons_self ..))).2
 simp only[go_sem,simprocAttr,ax,List.length_map]
 refine⟨λh=>ar (by rw[cg,if_pos (.inl ((me l 12).1 (by simpa using h)))]),λh=>?_⟩
 have h12: ¬12<l.length:=λe=>by have:=(me l 12).2 e;omega
 refine ae.at [0] (.of (by kernel_rfl)) (λA=>A.st=σ∧(l.any λc=>decide (6<c.length))=false) ?_ λB ⟨hst,h6⟩=>?_
 ·refine ae.upto [0,12,13] (.of (by kernel_rfl)) l.length (λi A=>A.env 14= .int .i64 i∧A.st=σ∧ ∀c∈l.take i,c.length≤6) 0 (Nat.zero_le _) ?_ λi B hi ⟨h8,hst,hI⟩=>?_
  ·simp only[go_sem,simprocAttr]
   simp
  simp only[go_sem,simprocAttr,h8,hst,List.length_map]
  refine⟨λhc=>⟨hc,?_⟩,λhc=>?_⟩
  ·obtain⟨a,ha⟩:=get_some hc
   simp only[av ha]
   simp only[go_sem,simprocAttr,aC,h8,hst,List.length_map]
   refine⟨λhb=>ar ?_,λhb=>⟨hc,ah hc hl,?_⟩⟩
   ·rw[cg,if_pos (.inr (any_true ha (decide_eq_true ((me a 6).1 (by simpa using hb)))))]
   ·rw[aj ha]
    intro c hcm
    rcases List.mem_append.1 hcm with hcm|hcm
    ·exact hI c hcm
    ·rw[List.mem_singleton.1 hcm];omega
  ·rw[List.take_of_length_le hc]at hI
   rw[List.any_eq_false]
   exact λc hcm=>by have:=hI c hcm;simp;omega
 have hm:cg l=if l.any (λc=>decide (c.length=0)||c.any λa=>!bT a)=true then 3 else 0:=by rw[cg,if_neg (by rw[h6];simp;omega)]
 simp only[go_sem,simprocAttr,hst]
 refine ae.upto [22,23] (.of (by kernel_rfl)) l.length (λi A=>A.env 24= .int .i64 i∧Ext σ A.st∧ ∀c∈l.take i,(decide (c.length=0)||c.any λa=>!bT a)=false) 0 (Nat.zero_le _) ?_ λi B hi ⟨h8,hst,hI⟩=>?_
 ·simp only[go_sem,simprocAttr]
  simp[hst,Ext.refl]
 simp only[go_sem,simprocAttr,h8,List.length_map]
 refine⟨λhc=>⟨hc,?_⟩,λhc=>⟨ar ?_,hst⟩⟩
 ·obtain⟨c,hcc⟩:=get_some hc
  simp only[av hcc]
  have hcl:c.length≤maxLen:=(aH (hls c (List.mem_of_getElem? hcc))).1
  simp only[go_sem,simprocAttr,aC,h8,List.length_map]
  refine⟨λh0=>⟨ar ?_,hst⟩,λh0=>?_⟩
  ·have:c.length=0:=by omega
   rw[hm,if_pos (any_true hcc (by simp[this]))]
  refine ae.ats [22,23,24] (.of (by kernel_rfl)) (λA=>Ext σ A.st∧(c.any λa=>!bT a)=false) ?_ λB ⟨hst,h6⟩=>?_
  ·refine ae.upto [22,23,24,31,32] (.of (by kernel_rfl)) c.length (λi A=>A.env 33= .int .i64 i∧Ext σ A.st∧ ∀a∈c.take i,bT a=true) 0 (Nat.zero_le _) ?_ λj B hj ⟨h33,hst,hJ⟩=>?_
   ·simp only[go_sem,simprocAttr]
    simp[hst]
   simp only[go_sem,simprocAttr,h33,List.length_map]
   refine⟨λhc'=>⟨hc',?_⟩,λhc'=>?_⟩
   ·obtain⟨a,ha⟩:=get_some hc'
    simp only[av ha]
    simp only[go_sem,simprocAttr,aN,h33]
    refine ak.fn (tF a) ?_
    simp only[go_sem,simprocAttr,h33]
    refine⟨λhb=>⟨ar ?_,hst.app _⟩,λhb=>⟨hc',ah hc' hcl,hst.app _,?_⟩⟩
    ·rw[hm,if_pos (any_true hcc (by rw[any_true ha (by rw[hb];rfl),Bool.or_true]))]
    ·rw[aj ha]
     intro x hxm
     rcases List.mem_append.1 hxm with hxm|hxm
     ·exact hJ x hxm
     ·rw[List.mem_singleton.1 hxm];exact hb
   ·rw[List.take_of_length_le hc']at hJ
    refine⟨hst,?_⟩
    rw[List.any_eq_false]
    exact λx hxm=>by rw[hJ x hxm];simp
  simp only[go_sem,simprocAttr,h8]
  refine⟨hc,ah hc hl,hst,?_⟩
  rw[aj hcc]
  intro x hxm
  rcases List.mem_append.1 hxm with hxm|hxm
  ·exact hI x hxm
  ·rw[List.mem_singleton.1 hxm,h6,Bool.or_false];exact decide_eq_false (by omega)
 ·rw[List.take_of_length_le hc]at hI
  rw[hm,if_neg]
  intro h
  obtain⟨c,hc1,hc2⟩:=List.any_eq_true.1 h
  rw[hI c hc1]at hc2
  cases hc2
theorem getD_map {α:Type}{f:α→AV}{l:List α}{i:Nat}{a:α}{d:AV}(h:l[i]?=some a):(l.map f)[i]?.getD d=f a:=by
 rw[List.getElem?_map,h];rfl
theorem Hu (l:List Atom):ag prog W0 124 [.sl 81 (l.map aN)] (.sl 81 ((l.take 13).map aN)):=by
 refine al [2] [] func124 rfl rfl ntmps124 rfl rfl (gK pf _) λhs σ=>?_
 have e:rG (l.length:Int) 13=((min l.length 13:Nat):Int):=by unfold rG;split<;>omega
 simp only[go_sem,simprocAttr,List.length_map,e]
 refine⟨by omega,?_⟩
 rw[←List.map_take,List.take_eq_take_iff.2 (show min (min l.length 13) l.length=min 13 l.length by omega)]
 exact .refl _
theorem Ax (l:List ia):ag prog W0 126 [.sl 147 (l.map cV)] (.sl 147 ((l.take 13).map cV)):=by
 refine al [2] [] func126 rfl rfl ntmps126 rfl rfl (gK s5 _) λhs σ=>?_
 have e:rG (l.length:Int) 13=((min l.length 13:Nat):Int):=by unfold rG;split<;>omega
 simp only[go_sem,simprocAttr,List.length_map,e]
 refine⟨by omega,?_⟩
 rw[←List.map_take,List.take_eq_take_iff.2 (show min (min l.length 13) l.length=min 13 l.length by omega)]
 exact .refl _
theorem DZ (l:List Atom):cg (single (l.take 13))=cg (single l):=by
 rcases Nat.lt_or_ge 12 l.length with h|h
 ·rw[cg,cg,if_pos (.inl (by simp[single];omega)),if_pos (.inl (by simpa[single]using h))]
 ·rw[List.take_of_length_le (by omega)]
theorem AA (p:Pkg):ag prog W0 59 [au p] (.int .i64 (aL p)):=by
 refine al [2] [1] func59 rfl rfl ntmps59 rfl rfl (.int _ _) λhs σ=>?_
 simp only[go_sem,simprocAttr,au]
 refine ak.fn (CF p.name) ?_
 simp only[go_sem,simprocAttr,au]
 refine aA.fnG (λ_=>se p.ver) ?_
 simp only[go_sem,simprocAttr,au]
 refine⟨λh=>ar (by rw[aL,if_pos h]),λh=>?_⟩
 have hm:aL p=orL [cg p.pre,cg p.dep,cg p.rcm,cg (single p.con),cg (single p.brk),cg (single (p.dI.map bG))]:=by rw[aL,if_neg (by rw[h];simp)]
 refine⟨.of (by kernel_rfl),aA.fn (Hu p.con) ?_⟩
 simp only[go_sem,simprocAttr]
 refine aA.fn (n9 (p.con.take 13) (by rw[List.length_take];omega)) ?_
 simp only[go_sem,simprocAttr]
 refine aA.fn (Hu p.brk) ?_
 simp only[go_sem,simprocAttr]
 refine aA.fn (n9 (p.brk.take 13) (by rw[List.length_take];omega)) ?_
 simp only[go_sem,simprocAttr]
 refine aA.fn (Ax p.dI) ?_
 simp only[go_sem,simprocAttr]
 refine aA.fn (xK (p.dI.take 13) (by rw[List.length_take];omega)) ?_
 simp only[go_sem,simprocAttr]
 refine aA.fn (n9 ((p.dI.take 13).map bG) (by rw[List.length_map,List.length_take];omega)) ?_
 simp only[go_sem,simprocAttr]
 let ls:=[p.pre,p.dep,p.rcm,single (p.con.take 13),single (p.brk.take 13),single ((p.dI.take 13).map bG)]
 have hl:orL (ls.map cg)=aL p:=by
  rw[hm]
  simp only[ls,List.map_cons,List.map_nil,DZ,List.map_take]
 have e:[ax p.pre,ax p.dep,ax p.rcm,ax (single (p.con.take 13)),ax (single (p.brk.take 13)),ax (single ((p.dI.take 13).map bG))]=ls.map ax:=rfl
 simp only[e]
 refine ae.upto [35] (.of (by kernel_rfl)) 6 (λi A=>A.env 36= .int .i64 i∧A.st=σ∧orL ((ls.map cg).drop i)=aL p) 0 (Nat.zero_le _) ?_ λi B hi ⟨h8,hst,hI⟩=>?_
 ·simp only[go_sem,simprocAttr]
  exact hl
 simp only[go_sem,simprocAttr,h8,hst]
 refine⟨λhc=>?_,λhc=>ar ?_⟩
 ·have hc':i<ls.length:=by show i<6;omega
  obtain⟨c,hcc⟩:=get_some hc'
  obtain⟨hlt,hae⟩:=List.getElem?_eq_some_iff.1 hcc
  rw[List.drop_eq_getElem_cons (by simpa using hc'),List.getElem_map,hae]at hI
  simp only[getD_map hcc]
  refine⟨by simpa using hc',trivial,ak.fn (G3 c) ?_⟩
  simp only[go_sem,simprocAttr,h8,hst]
  refine⟨λhq=>ar (by rw[←hI,orL,if_pos hq]),λhq=>⟨by omega,ah (show i<6 by omega) (by rw[aq];omega),?_⟩⟩
  rw[←hI,orL,if_neg (by simpa using hq)]
 ·rw[List.drop_eq_nil_of_le (by show 6≤i;omega)]at hI
  exact hI
structure lp (p:Pkg):Prop where
 con:p.con.length≤1048576
 brk:p.brk.length≤1048576
 dI:p.dI.length≤1048576
theorem Ge (p:Pkg)(hp:lp p):ag prog W0 80 [au p] (.int .i64 (aL p)):=by
 refine al [2] [1] func80 rfl rfl ntmps80 rfl rfl (.int _ _) λhs σ=>?_
 simp only[go_sem,simprocAttr,au]
 refine ak.fn (jf p.ver) ?_
 have hpv: ∃e u r,e8 (eB p.ver)= .tup [.str e,.str u,.str r,.int .i64 (if bk p.ver then 0 else 3)]:=by
  cases h:eB p.ver with
  |none=>exact⟨_,_,_,by rw[bk,h];rfl⟩
  |some v=>exact⟨_,_,_,by rw[bk,h];rfl⟩
 obtain⟨e,u,r,hpv⟩:=hpv
 rw[hpv]
 simp only[go_sem,simprocAttr,au]
 refine ak.fn (xe p.name) ?_
 simp only[go_sem,simprocAttr,au]
 have hb:(!dc p.name||(if bk p.ver=true then(0:Int)else 3) !=0)=(!dc p.name|| !bk p.ver):=by cases bk p.ver<;>rfl
 simp only[hb]
 refine⟨λh=>ar (by rw[aL,if_pos h]),λh=>?_⟩
 have hm:aL p=orL [cg p.pre,cg p.dep,cg p.rcm,cg (single p.con),cg (single p.brk),cg (single (p.dI.map bG))]:=by rw[aL,if_neg (by rw[h];simp)]
 refine⟨.of (by kernel_rfl),aA.fn (tJ p.con hp.con) ?_⟩
 simp only[go_sem,simprocAttr]
 refine aA.fn (tJ p.brk hp.brk) ?_
 simp only[go_sem,simprocAttr]
 refine aA.fn (xM p.dI hp.dI) ?_
 simp only[go_sem,simprocAttr]
 let ls:=[p.pre,p.dep,p.rcm,single p.con,single p.brk,single (p.dI.map bG)]
 have hl:orL (ls.map cg)=aL p:=by
  rw[hm]
  simp only[ls,List.map_cons,List.map_nil]
 have e:[ax p.pre,ax p.dep,ax p.rcm,ax (single p.con),ax (single p.brk),ax (single (p.dI.map bG))]=ls.map ax:=rfl
 simp only[e]
 refine ae.upto [41,42] (.of (by kernel_rfl)) 6 (λi A=>A.env 43= .int .i64 i∧A.st=σ∧orL ((ls.map cg).drop i)=aL p) 0 (Nat.zero_le _) ?_ λi B hi ⟨h8,hst,hI⟩=>?_
 ·simp only[go_sem,simprocAttr]
  exact hl
 simp only[go_sem,simprocAttr,h8,hst]
 refine⟨λhc=>?_,λhc=>ar ?_⟩
 ·have hc':i<ls.length:=by show i<6;omega
  obtain⟨c,hcc⟩:=get_some hc'
  obtain⟨hlt,hae⟩:=List.getElem?_eq_some_iff.1 hcc
  rw[List.drop_eq_getElem_cons (by simpa using hc'),List.getElem_map,hae]at hI
  simp only[av hcc]
  refine⟨by simpa using hc',trivial,ak.fn (Gm c) ?_⟩
  simp only[go_sem,simprocAttr,h8,hst]
  refine⟨λhq=>ar (by rw[←hI,orL,if_pos hq]),λhq=>⟨by omega,ah (show i<6 by omega) (by rw[aq];omega),?_⟩⟩
  rw[←hI,orL,if_neg (by simpa using hq)]
 ·rw[List.drop_eq_nil_of_le (by show 6≤i;omega)]at hI
  exact hI
theorem J7 (p q:Pkg):ag prog W0 149 [au q,.loc 54 (au p)] (.bool (cL p q)):=by
 refine al [3] [2] func149 rfl rfl ntmps149 rfl rfl (.bool _) λhs σ=>?_
 simp only[go_sem,simprocAttr,au]
 refine aA.fnG (λ_=>pv q.ver p.ver) ?_
 simp only[go_sem,simprocAttr]
 exact ai rfl
theorem cJ.pkg (p:Pkg):cJ (au p):=trivial
@[go_sem] theorem PI (g:Option Bool)(p:Pkg):okM g (au p)=True:=eq_true trivial
@[go_sem] theorem PM (p:Pkg):unm (au p)=au p:=rfl
theorem vI (l:List Pkg)(hp: ∀p∈l,lp p):ag prog W0 90 [aT l] (.int .i64 (bg l)):=by
 refine al [2] [4,8] func90 rfl rfl ntmps90 rfl rfl (.int _ _) λhs σ=>?_
 have hl:=(aH (hs _ (List.mem_cons_self ..))).1
 simp only[go_sem,simprocAttr,aT,List.length_map]
 refine⟨λh=>ar (by rw[bg,if_pos ((me l 24).1 (by simpa using h))]),λh=>?_⟩
 have h24: ¬24<l.length:=λe=>by have:=(me l 24).2 e;omega
 refine ae.at [0] (.of (by kernel_rfl)) (λA=>Ext σ A.st∧orL (l.map aL)=0) ?_ λB ⟨hst,h6⟩=>?_
 ·refine ae.upto [0,12,13] (.of (by kernel_rfl)) l.length (λi A=>A.env 14= .int .i64 i∧Ext σ A.st∧orL ((l.map aL).drop i)=orL (l.map aL)) 0 (Nat.zero_le _) ?_ λi B hi ⟨h8,hst,hI⟩=>?_
  ·simp only[go_sem,simprocAttr]
   simp[Ext.refl]
  simp only[go_sem,simprocAttr,h8,List.length_map]
  refine⟨λhc=>⟨hc,?_⟩,λhc=>?_⟩
  ·obtain⟨a,ha⟩:=get_some hc
   obtain⟨hlt,hae⟩:=List.getElem?_eq_some_iff.1 ha
   rw[List.drop_eq_getElem_cons (by simpa using hc),List.getElem_map,hae]at hI
   simp only[av ha]
   simp only[go_sem,simprocAttr,h8,List.length_map]
   refine⟨by kernel_rfl,ak.fn (Ge a (hp a (List.mem_of_getElem? ha))) ?_⟩
   simp only[go_sem,simprocAttr,h8]
   refine⟨λhq=>⟨ar ?_,hst.app _⟩,λhq=>⟨hc,ah hc hl,hst.app _,?_⟩⟩
   ·rw[orL,if_pos hq]at hI
    rw[bg,if_neg h24,if_pos (by rw[←hI];exact hq),hI]
   ·rw[←hI,orL,if_neg (by simpa using hq)]
  ·rw[List.drop_eq_nil_of_le (by simpa using hc)]at hI
   exact⟨hst,hI.symm⟩
 have hm:bg l=if jz [] l=true then 4 else if 10<(cG l []).length then 12 else 0:=by rw[bg,if_neg h24,if_neg (by simp[h6])]
 simp only[go_sem,simprocAttr,List.length_map]
 refine ae.at [0,24,25] (.of (by kernel_rfl)) (λA=>∃ v,A.env 6=v∧aK σ A.st v 9 ((cG l []).map .str)∧jz [] l=false) ?_ λB ⟨v,h6,hb,hd⟩=>?_
 ·refine ae.upto [0,24,25] (.of (by kernel_rfl)) l.length (λi A=>∃ v acc,A.env 6=v∧A.env 26= .int .i64 i∧aK σ A.st v 9 (acc.map .str)∧cG (l.drop i) acc=cG l []∧jz (l.take i) (l.drop i)=jz [] l∧acc.length≤i) 0 (Nat.zero_le _) ?_ λi B hi ⟨v,acc,h6,h8,hb,hn,hd,hal⟩=>?_
  ·simp only[go_sem,simprocAttr]
   exact⟨_,[],rfl,aK.nil hst _,by simp⟩
  simp only[go_sem,simprocAttr,h6,h8,hb.ok,hb.un,List.length_map]
  refine⟨λhc=>⟨hc,?_⟩,λhc=>?_⟩
  ·obtain⟨a,ha⟩:=get_some hc
   obtain⟨hlt,hae⟩:=List.getElem?_eq_some_iff.1 ha
   rw[List.drop_eq_getElem_cons hc,hae]at hn hd
   simp only[av ha]
   simp only[go_sem,simprocAttr,h6,h8,hb.ok,hb.un,List.length_map]
   rw[←List.map_take]
   refine⟨by kernel_rfl,⟨Nat.zero_le _,hi⟩,ak.fn (L4 au cJ.pkg (l.take i) (cL a) _ [.loc 54 (au a)] (λq _=>J7 a q)) ?_⟩
   simp only[go_sem,simprocAttr,au,h6,h8,hb.ok,hb.un]
   rw[jz]at hd
   refine⟨λhq=>⟨ar ?_,hb.ext.app _⟩,λhq=>ak.fn ((MH acc a.name).bZ (.cons hb.bZ (.cons (.refl _) .nil))) ?_⟩
   ·rw[hm,←hd,hq,if_pos (by simp)]
   rw[hq,Bool.false_or,←aj ha]at hd
   simp only[go_sem,simprocAttr,au,h6,h8,hb.ok,hb.un]
   rw[cG]at hn
   have hb2:=(hb.more [none])
   refine⟨λh=>?_,λh=>⟨hc,v,acc,rfl,ah hc hl,hb2,?_,hd,by omega⟩⟩
   ·refine bM.own 1048576 (by kernel_rfl) hb2.bld (.lit _ _ _) (by simp;omega) λv' σ' ha'=>?_
    have hb':=hb2.app ha'
    simp only[go_sem,simprocAttr,h6,h8,hb'.ok,hb'.un]
    refine⟨hc,_,acc++[a.name],rfl,ah hc hl,by simpa using hb',?_,hd,by simp;omega⟩
    rw[if_neg (by simp[h])]at hn
    exact hn
   ·rw[if_pos h]at hn
    exact hn
  ·rw[List.drop_eq_nil_of_le hc]at hn hd
   exact⟨_,rfl,by rw[←hn];exact hb,hd.symm⟩
 simp only[go_sem,simprocAttr,h6,hb.ok,hb.un,hb.len,hb.fO,List.length_map]
 refine⟨λhq=>⟨ar ?_,hb.ext⟩,λhq=>⟨ar ?_,hb.ext⟩⟩
 ·rw[hm,hd,if_neg (by simp),if_pos ((me _ 10).1 hq)]
 ·rw[hm,hd,if_neg (by simp),if_neg (λe=>hq ((me _ 10).2 e))]
end Go.Proofs.Tryz
end
section
namespace Go.Proofs.Tryz
open Go Go.Av
set_option maxRecDepth 10000
variable {W0 :World}
theorem uQ (l:List Pkg):ag prog W0 19 [aT l] (.int .i64 (bg l)):=by
 refine al [2] [4,8,11] func19 rfl rfl ntmps19 rfl rfl (.int _ _) λhs σ=>?_
 have hl:=(aH (hs _ (List.mem_cons_self ..))).1
 simp only[go_sem,simprocAttr,aT,List.length_map]
 refine⟨λh=>ar (by rw[bg,if_pos ((me l 24).1 (by simpa using h))]),λh=>?_⟩
 have h24: ¬24<l.length:=λe=>by have:=(me l 24).2 e;omega
 refine ae.at [0] (.of (by kernel_rfl)) (λA=>Ext σ A.st∧orL (l.map aL)=0) ?_ λB ⟨hst,h6⟩=>?_
 ·refine ae.upto [0,15,16] (.of (by kernel_rfl)) l.length (λi A=>A.env 17= .int .i64 i∧Ext σ A.st∧orL ((l.map aL).drop i)=orL (l.map aL)) 0 (Nat.zero_le _) ?_ λi B hi ⟨h8,hst,hI⟩=>?_
  ·simp only[go_sem,simprocAttr]
   simp[Ext.refl]
  simp only[go_sem,simprocAttr,h8,List.length_map]
  refine⟨λhc=>⟨hc,?_⟩,λhc=>?_⟩
  ·obtain⟨a,ha⟩:=get_some hc
   obtain⟨hlt,hae⟩:=List.getElem?_eq_some_iff.1 ha
   rw[List.drop_eq_getElem_cons (by simpa using hc),List.getElem_map,hae]at hI
   simp only[av ha]
   simp only[go_sem,simprocAttr,h8,List.length_map]
   refine⟨by kernel_rfl,ak.fn (AA a) ?_⟩
   simp only[go_sem,simprocAttr,h8]
   refine⟨λhq=>⟨ar ?_,hst.app _⟩,λhq=>⟨hc,ah hc hl,hst.app _,?_⟩⟩
   ·rw[orL,if_pos hq]at hI
    rw[bg,if_neg h24,if_pos (by rw[←hI];exact hq),hI]
   ·rw[←hI,orL,if_neg (by simpa using hq)]
  ·rw[List.drop_eq_nil_of_le (by simpa using hc)]at hI
   exact⟨hst,hI.symm⟩
 have hm:bg l=if jz [] l=true then 4 else if 10<(cG l []).length then 12 else 0:=by rw[bg,if_neg h24,if_neg (by simp[h6])]
 simp only[go_sem,simprocAttr,List.length_map]
 refine ae.at [0,27,28] (.of (by kernel_rfl)) (λA=>∃ v,A.env 6=v∧aK σ A.st v 9 ((cG l []).map .str)∧jz [] l=false) ?_ λB ⟨v,h6,hb,hd⟩=>?_
 ·refine ae.upto [0,27,28] (.of (by kernel_rfl)) l.length (λi A=>∃ v acc,A.env 6=v∧A.env 29= .int .i64 i∧aK σ A.st v 9 (acc.map .str)∧cG (l.drop i) acc=cG l []∧jz (l.take i) (l.drop i)=jz [] l∧acc.length≤i∧ ∀n,acc.any (λx=>n==x)=(l.take i).any (λq=>q.name==n)) 0 (Nat.zero_le _) ?_ λi B hi ⟨v,acc,h6,h8,hb,hn,hd,hal,hnm⟩=>?_
  ·simp only[go_sem,simprocAttr]
   exact⟨_,[],rfl,aK.nil hst _,by simp⟩
  simp only[go_sem,simprocAttr,h6,h8,hb.ok,hb.un,List.length_map]
  refine⟨λhc=>⟨hc,?_⟩,λhc=>?_⟩
  ·obtain⟨a,ha⟩:=get_some hc
   obtain⟨hlt,hae⟩:=List.getElem?_eq_some_iff.1 ha
   rw[List.drop_eq_getElem_cons hc,hae]at hn hd
   simp only[av ha]
   simp only[go_sem,simprocAttr,h6,h8,hb.ok,hb.un,List.length_map]
   rw[←List.map_take]
   refine⟨by kernel_rfl,⟨Nat.zero_le _,hi⟩,?_⟩
   rw[jz]at hd
   rw[cG]at hn
   have hb2:=(hb.more [none])
   have hil:(l.take i).length=i:=by rw[List.length_take];omega
   refine ae.at [0,6,8,27,28,29] (.of (by kernel_rfl)) (λA=>Ext (B.st++[none]) A.st∧A.env 9= .bool ((l.take i).any λq=>q.name==a.name)∧(l.take i).any (cL a)=false) ?_ λA ⟨hst,h9,hd2⟩=>?_
   ·refine ae.upto [0,6,8,27,28,29,36,37] (.of (by kernel_rfl)) i (λj A=>A.env 38= .int .i64 j∧Ext (B.st++[none]) A.st∧A.env 9= .bool (((l.take i).take j).any λq=>q.name==a.name)∧((l.take i).take j).any (cL a)=false) 0 (Nat.zero_le _) ?_ λj A hj ⟨h38,hst,h9,hd2⟩=>?_
    ·simp only[go_sem,simprocAttr,List.length_map]
     exact⟨.refl _,by simp,by simp⟩
    simp only[go_sem,simprocAttr,h38,h9,List.length_map]
    refine⟨λhj'=>⟨hj',?_⟩,λhj'=>?_⟩
    ·obtain⟨b,hbj⟩:=get_some hj'
     have hjl:j<i:=by omega
     simp only[av hbj]
     simp only[go_sem,simprocAttr,au,h38,h9]
     have he: ∀f:Pkg→Bool,((l.take i).take (j+1)).any f=(((l.take i).take j).any f||f b):=λf=>by rw[aj hbj,List.any_append];simp
     refine⟨λhq=>ak.fn (lJ b.ver a.ver) ?_,λhq=>?_⟩
     ·simp only[go_sem,simprocAttr,h38,h9]
      refine⟨λhv=>⟨ar ?_,hb2.ext.trans (hst.app _)⟩,λhv=>⟨hjl,ah hjl (by omega),hst.app _,?_,?_⟩⟩
      ·have:(l.take i).any (cL a)=true:=any_true hbj (by simp[cL,hq,hv])
       rw[hm,←hd,this,if_pos (by simp)]
      ·rw[he];simp[hq]
      ·rw[he,hd2];simp[cL,hv]
     ·refine⟨hjl,ah hjl (by omega),hst.app _,?_,?_⟩
      ·rw[he];simp[hq]
      ·rw[he,hd2];simp[cL,hq]
    ·rw[List.take_of_length_le hj']at h9 hd2 ⊢
     exact⟨hst,rfl,hd2⟩
   have hb3:=hb2.on hst
   rw[hd2,Bool.false_or,←aj ha]at hd
   have hns: ∀acc':List (List UInt8),acc'=(if (acc.any λx=>a.name==x)=true then acc else acc++[a.name])→ ∀n,acc'.any (λx=>n==x)=(l.take (i+1)).any (λq=>q.name==n):=λacc' e n=>by
    rw[aj ha,List.any_append,←hnm n,e]
    by_cases hx:(acc.any λx=>a.name==x)=true
    ·rw[if_pos hx]
     by_cases hna:a.name=n
     ·subst hna;simp[hx]
     ·simp[hna]
    ·rw[if_neg hx,List.any_append]
     have:(n==a.name)=(a.name==n):=by rw[Bool.eq_iff_iff,beq_iff_eq,beq_iff_eq];exact⟨Eq.symm,Eq.symm⟩
     simp[this]
   simp only[go_sem,simprocAttr,au,h6,h8,h9,hb3.ok,hb3.un]
   refine⟨λh=>?_,λh=>⟨hc,v,acc,rfl,ah hc hl,hb3,?_,hd,by omega,?_⟩⟩
   ·refine bM.own 1048576 (by kernel_rfl) hb3.bld (.lit _ _ _) (by simp;omega) λv' σ' ha'=>?_
    have hb':=hb3.app ha'
    simp only[go_sem,simprocAttr,h6,h8,hb'.ok,hb'.un]
    rw[←hnm]at h
    rw[if_neg (by rw[h];simp)]at hn hns
    refine⟨hc,_,acc++[a.name],rfl,ah hc hl,by simpa using hb',hn,hd,by simp;omega,hns _ rfl⟩
   ·rw[←hnm]at h
    rw[if_pos h]at hn
    exact hn
   ·rw[←hnm]at h
    rw[if_pos h]at hns
    exact hns _ rfl
  ·rw[List.drop_eq_nil_of_le hc]at hn hd
   exact⟨_,rfl,by rw[←hn];exact hb,hd.symm⟩
 simp only[go_sem,simprocAttr,h6,hb.ok,hb.un,hb.len,hb.fO,List.length_map]
 refine⟨λhq=>⟨ar ?_,hb.ext⟩,λhq=>⟨ar ?_,hb.ext⟩⟩
 ·rw[hm,hd,if_neg (by simp),if_pos ((me _ 10).1 hq)]
 ·rw[hm,hd,if_neg (by simp),if_neg (λe=>hq ((me _ 10).2 e))]
end Go.Proofs.Tryz
end
section
namespace Go.Av
theorem any_succ {α:Type}{l:List α}{i:Nat}{x:α}(h:l[i]?=some x)(f:α→Bool):(l.take (i+1)).any f=((l.take i).any f||f x):=by
 rw[aj h,List.any_append];simp
theorem jU {α:Type}{l:List α}{i:Nat}(h:l.length≤i)(f:α→Bool):(l.take i).any f=l.any f:=by rw[List.take_of_length_le h]
def cS (p:Pkg)(a:Atom):Bool:=
 bT a&&((p.name==a.name&&ec a.rel p.ver a.ver)||p.dI.any λv=>v.name==a.name&&(a.rel==0||ec a.rel v.ver a.ver))
def iZ (p q:Pkg):Bool:=p.con.any (cS q)||p.brk.any (cS q)
def dQ (p q:Pkg):Bool:=p.name !=q.name&&(iZ p q||iZ q p)
def ll (c:Clause)(l:List Pkg):Bool:=c.any λa=>l.any λp=>cS p a
def pe (l bef:List Pkg)(p:Pkg):Bool:=aL p !=0||bef.any (λq=>q.name==p.name||dQ p q)||(p.pre.any (λc=>!ll c l)||p.dep.any (λc=>!ll c l))
def qO (l:List Pkg):List Pkg→List Pkg→Bool
 |_,[]=>false
 |bef,p::r=>pe l bef p||qO l (bef++[p]) r
def dz (l:List Pkg):Bool:=!qO l [] l
theorem Ej :bk []=false:=rfl
theorem holds_nil {r:Int}(b:List UInt8):ec r [] b=false:=by
 unfold ec
 rw[Ej]
 split<;>rfl
end Go.Av
end
section
namespace Go.Proofs.Tryz
open Go Go.Av
set_option maxRecDepth 10000
variable {W0 :World}
@[go_sem] theorem Nd (g:Option Bool)(p:Atom):okM g (aN p)=True:=eq_true trivial
@[go_sem] theorem N9 (p:Atom):unm (aN p)=aN p:=rfl
@[go_sem] theorem Lj (p:Atom):bq prog 81 (aN p)=true:=by kernel_rfl
@[go_sem] theorem OR (p:Pkg):bq prog 54 (au p)=true:=by kernel_rfl
@[go_sem] theorem M6 (g:Option Bool)(p:ia):okM g (cV p)=True:=eq_true trivial
@[go_sem] theorem Ms (p:ia):unm (cV p)=cV p:=rfl
theorem cJ.dI (p:ia):cJ (cV p):=trivial
theorem I1 (a:Atom)(v:ia):ag prog W0 183 [cV v,.loc 81 (aN a)] (.bool (v.name==a.name&&(a.rel==0||ec a.rel v.ver a.ver))):=by
 refine al [3] [2] func183 rfl rfl ntmps183 rfl rfl (.bool _) λhs σ=>?_
 simp only[go_sem,simprocAttr,cV,aN]
 refine aA.fnG (λ_=>zp a.rel v.ver a.ver) ?_
 simp only[go_sem,simprocAttr]
theorem FQ (p:Pkg)(a:Atom):ag prog W0 133 [au p,aN a] (.bool (cS p a)):=by
 refine al [4] [2,3] func133 rfl rfl ntmps133 rfl rfl (.bool _) λhs σ=>?_
 simp only[go_sem,simprocAttr,au,aN]
 refine ak.fn (tQ a) ?_
 simp only[go_sem,simprocAttr,au,aN]
 refine⟨λh=>ai (by rw[cS,h];rfl),λh=>aA.fnG (λ_=>zp a.rel p.ver a.ver) ?_⟩
 simp only[go_sem,simprocAttr,au,aN]
 refine⟨λh2=>ai (by rw[cS,h,h2];rfl),λh2=>ak.fn (OI cV cJ.dI p.dI _ _ [.loc 81 (aN a)] (λq _=>I1 a q)) ?_⟩
 simp only[go_sem,simprocAttr]
 exact ai (by rw[cS,h,h2];simp)
theorem qY (q:Pkg)(a:Atom):ag prog W0 192 [aN a,.loc 54 (au q)] (.bool (cS q a)):=by
 refine al [3] [2] func192 rfl rfl ntmps192 rfl rfl (.bool _) λhs σ=>?_
 simp only[go_sem,simprocAttr]
 refine ak.fn (FQ q a) ?_
 simp only[go_sem,simprocAttr]
 try exact ai rfl
theorem tZ (p q:Pkg):ag prog W0 136 [au p,au q] (.bool (iZ p q)):=by
 refine al [4] [2,3] func136 rfl rfl ntmps136 rfl rfl (.bool _) λhs σ=>?_
 simp only[go_sem,simprocAttr,au]
 refine ak.fn (Gk aN cJ.atom p.con (cS q) _ [.loc 54 (au q)] (λa _=>qY q a)) ?_
 simp only[go_sem,simprocAttr,au]
 refine aA.go (λ_=>Gk aN cJ.atom p.brk (cS q) _ [.loc 54 (au q)] (λa _=>qY q a)) ?_
 simp only[go_sem,simprocAttr]
 try exact ai rfl
theorem yd (p q:Pkg):ag prog W0 75 [au p,au q] (.bool (dQ p q)):=by
 refine al [4] [2,3] func75 rfl rfl ntmps75 rfl rfl (.bool _) λhs σ=>?_
 simp only[go_sem,simprocAttr,au]
 refine aA.fnG (λ_=>tZ p q) ?_
 simp only[go_sem,simprocAttr]
 refine aA.fnG (λ_=>tZ q p) ?_
 simp only[go_sem,simprocAttr]
 try exact ai rfl
theorem CB (p:Pkg)(a:Atom):ag prog W0 76 [au p,aN a] (.bool (cS p a)):=by
 refine al [4] [2,3,6] func76 rfl rfl ntmps76 rfl rfl (.bool _) λhs σ=>?_
 have hl:=(aH (nb (hs _ (List.mem_cons_self ..)) (cn p.dI) (by simp))).1
 simp only[go_sem,simprocAttr,au,aN]
 refine ak.fn (tF a) ?_
 simp only[go_sem,simprocAttr,au,aN]
 refine⟨λh=>ai (by rw[cS,h];rfl),λh=>aA.fnG (λ_=>zw a.rel p.ver a.ver) ?_⟩
 simp only[go_sem,simprocAttr,au,aN]
 refine⟨λh2=>ai (by rw[cS,h,h2];rfl),λh2=>?_⟩
 simp only[go_sem,simprocAttr,cn,List.length_map]
 refine ae.upto [3,25,26] (.of (by kernel_rfl)) p.dI.length (λi A=>A.env 27= .int .i64 i∧Ext σ A.st∧(p.dI.take i).any (λv=>v.name==a.name&&(a.rel==0||ec a.rel v.ver a.ver))=false) 0 (Nat.zero_le _) ?_ λi B hi ⟨h8,hst,hI⟩=>?_
 ·simp only[go_sem,simprocAttr]
  simp[Ext.refl]
 simp only[go_sem,simprocAttr,h8,List.length_map]
 refine⟨λhc=>⟨hc,?_⟩,λhc=>⟨ai ?_,hst⟩⟩
 ·obtain⟨v,hv⟩:=get_some hc
  simp only[av hv]
  simp only[go_sem,simprocAttr,cV,h8]
  refine aA.fnG (λ_=>zw a.rel v.ver a.ver) ?_
  simp only[go_sem,simprocAttr,h8]
  have e:(v.name==a.name&&(a.rel==0|| !v.ver==[]&&ec a.rel v.ver a.ver))=(v.name==a.name&&(a.rel==0||ec a.rel v.ver a.ver)):=by
   cases hv:v.ver with
   |nil=>rw[holds_nil];simp
   |cons c r=>simp
  simp only[e]
  refine⟨λhq=>⟨ai ?_,hst.app _⟩,λhq=>⟨hc,ah hc hl,hst.app _,by rw[any_succ hv,hI,hq];rfl⟩⟩
  rw[cS,h,h2,any_true hv hq];rfl
 ·rw[jU hc]at hI
  rw[cS,h,h2,hI];rfl
theorem qZ (p q:Pkg):ag prog W0 129 [au p,au q] (.bool (iZ p q)):=by
 refine al [4] [2,3,8] func129 rfl rfl ntmps129 rfl rfl (.bool _) λhs σ=>?_
 have hl1:=(aH (nb (hs _ (List.mem_cons_self ..)) (aC p.con) (by simp))).1
 have hl2:=(aH (nb (hs _ (List.mem_cons_self ..)) (aC p.brk) (by simp))).1
 simp only[go_sem,simprocAttr,au]
 let ls:=[p.con,p.brk]
 have e:[aC p.con,aC p.brk]=ls.map aC:=rfl
 have hls: ∀l∈ls,l.length≤maxLen:=by simp only[ls];simp[hl1,hl2]
 have ha:iZ p q=ls.any λl=>l.any (cS q):=by simp only[ls];simp[iZ]
 simp only[e]
 refine ae.upto [3,13] (.of (by kernel_rfl)) 2 (λi A=>A.env 14= .int .i64 i∧Ext σ A.st∧((ls.take i).any λl=>l.any (cS q))=false) 0 (Nat.zero_le _) ?_ λi B hi ⟨h8,hst,hI⟩=>?_
 ·simp only[go_sem,simprocAttr]
  simp[Ext.refl]
 simp only[go_sem,simprocAttr,h8]
 refine⟨λhc=>?_,λhc=>⟨ai ?_,hst⟩⟩
 ·have hc':i<ls.length:=by show i<2;omega
  obtain⟨l,hll⟩:=get_some hc'
  have hl:=hls l (List.mem_of_getElem? hll)
  simp only[getD_map hll]
  simp only[go_sem,simprocAttr,aC,List.length_map]
  refine⟨hc',ae.ats [3,13,14] (.of (by kernel_rfl)) (λA=>Ext σ A.st∧l.any (cS q)=false) ?_ λA ⟨hst,hd⟩=>?_⟩
  ·refine ae.upto [3,13,14,17,18] (.of (by kernel_rfl)) l.length (λj A=>A.env 19= .int .i64 j∧Ext σ A.st∧(l.take j).any (cS q)=false) 0 (Nat.zero_le _) ?_ λj A hj ⟨h19,hst,hJ⟩=>?_
   ·simp only[go_sem,simprocAttr]
    simp[hst]
   simp only[go_sem,simprocAttr,h19,List.length_map]
   refine⟨λhc'=>⟨hc',?_⟩,λhc'=>⟨hst,by rwa [jU hc']at hJ⟩⟩
   obtain⟨a,ha'⟩:=get_some hc'
   simp only[av ha']
   simp only[go_sem,simprocAttr,h19]
   refine ak.fn (CB q a) ?_
   simp only[go_sem,simprocAttr,h19]
   refine⟨λhq=>⟨ai ?_,hst.app _⟩,λhq=>⟨hc',ah hc' hl,hst.app _,by rw[any_succ ha',hJ,hq];rfl⟩⟩
   rw[ha,any_true hll (any_true ha' hq)]
  simp only[go_sem,simprocAttr,h8]
  exact⟨by omega,ah (show i<2 by omega) (by rw[aq];omega),hst,by rw[any_succ hll,hI,hd];rfl⟩
 ·rw[jU (by show 2≤i;omega)]at hI
  rw[ha,hI]
theorem Eg (p q:Pkg):ag prog W0 65 [au p,au q] (.bool (dQ p q)):=by
 refine al [4] [2,3] func65 rfl rfl ntmps65 rfl rfl (.bool _) λhs σ=>?_
 simp only[go_sem,simprocAttr,au]
 refine aA.fnG (λ_=>qZ p q) ?_
 simp only[go_sem,simprocAttr]
 refine aA.fnG (λ_=>qZ q p) ?_
 simp only[go_sem,simprocAttr]
 try exact ai rfl
theorem CS (c:Clause)(l:List Pkg):ag prog W0 29 [aC c,aT l] (.bool (ll c l)):=by
 refine al [4] [6,8] func29 rfl rfl ntmps29 rfl rfl (.bool _) λhs σ=>?_
 have hcl:=(aH (hs _ (List.mem_cons_self ..))).1
 have hl:=(aH (hs (aT l) (by simp))).1
 simp only[go_sem,simprocAttr,aC,aT,List.length_map]
 refine ae.upto [1,9,10] (.of (by kernel_rfl)) c.length (λi A=>A.env 11= .int .i64 i∧Ext σ A.st∧((c.take i).any λa=>l.any λp=>cS p a)=false) 0 (Nat.zero_le _) ?_ λi B hi ⟨h8,hst,hI⟩=>?_
 ·simp only[go_sem,simprocAttr]
  simp[Ext.refl]
 simp only[go_sem,simprocAttr,h8,List.length_map]
 refine⟨λhc=>⟨hc,?_⟩,λhc=>⟨ai ?_,hst⟩⟩
 ·obtain⟨a,ha⟩:=get_some hc
  simp only[av ha]
  simp only[go_sem,simprocAttr,h8,List.length_map]
  refine ae.ats [1,9,10,11] (.of (by kernel_rfl)) (λA=>Ext σ A.st∧(l.any λp=>cS p a)=false) ?_ λA ⟨hst,hd⟩=>?_
  ·refine ae.upto [1,6,9,10,11,15,16] (.of (by kernel_rfl)) l.length (λj A=>A.env 17= .int .i64 j∧Ext σ A.st∧((l.take j).any λp=>cS p a)=false) 0 (Nat.zero_le _) ?_ λj A hj ⟨h19,hst,hJ⟩=>?_
   ·simp only[go_sem,simprocAttr]
    simp[hst.app]
   simp only[go_sem,simprocAttr,h19,List.length_map]
   refine⟨λhc'=>⟨hc',?_⟩,λhc'=>⟨hst,by rwa [jU hc']at hJ⟩⟩
   obtain⟨p,hp⟩:=get_some hc'
   simp only[av hp]
   simp only[go_sem,simprocAttr,h19]
   refine ak.fn (CB p a) ?_
   simp only[go_sem,simprocAttr,h19]
   refine⟨λhq=>⟨ai ?_,hst.app _⟩,λhq=>⟨hc',ah hc' hl,hst.app _,by rw[any_succ hp,hJ,hq];rfl⟩⟩
   rw[ll,any_true ha (any_true hp hq)]
  simp only[go_sem,simprocAttr,h8]
  exact⟨hc,ah hc hcl,hst,by rw[any_succ ha,hI,hd];rfl⟩
 ·rw[jU hc]at hI
  exact hI.symm
theorem zf (l:List Pkg):ag prog W0 24 [aT l] (.bool (dz l)):=by
 refine al [2] [4,6] func24 rfl rfl ntmps24 rfl rfl (.bool _) λhs σ=>?_
 have hl:=(aH (hs _ (List.mem_cons_self ..))).1
 have hls:=(aH (hs _ (List.mem_cons_self ..))).2
 simp only[go_sem,simprocAttr,aT,List.length_map]
 refine ae.upto [0,11,12] (.of (by kernel_rfl)) l.length (λi A=>A.env 13= .int .i64 i∧Ext σ A.st∧qO l (l.take i) (l.drop i)=qO l [] l) 0 (Nat.zero_le _) ?_ λi B hi ⟨h8,hst,hI⟩=>?_
 ·simp only[go_sem,simprocAttr]
  simp[Ext.refl]
 simp only[go_sem,simprocAttr,h8,List.length_map]
 refine⟨λhc=>⟨hc,?_⟩,λhc=>⟨ai ?_,hst⟩⟩
 ·obtain⟨a,ha⟩:=get_some hc
  obtain⟨hlt,hae⟩:=List.getElem?_eq_some_iff.1 ha
  have hsm:=nb (hls a (List.mem_of_getElem? ha))
  have hpre:a.pre.length≤maxLen:=(aH (hsm (ax a.pre) (by simp))).1
  have hdep:a.dep.length≤maxLen:=(aH (hsm (ax a.dep) (by simp))).1
  rw[List.drop_eq_getElem_cons hc,hae,qO]at hI
  have sick:pe l (l.take i) a=true→false=dz l:=λe=>by rw[dz,←hI,e];rfl
  simp only[av ha]
  simp only[go_sem,simprocAttr,h8,List.length_map]
  refine ak.fn (AA a) ?_
  simp only[go_sem,simprocAttr,h8,List.length_map]
  refine⟨λhq=>⟨ai (sick ?_),hst.app _⟩,λhq=>?_⟩
  ·simp[pe,hq]
  rw[←List.map_take]
  have hil:(l.take i).length=i:=by rw[List.length_take];omega
  refine⟨⟨Nat.zero_le _,hi⟩,ae.at [0,4,11,12,13] (.of (by kernel_rfl)) (λA=>Ext σ A.st∧(l.take i).any (λq=>q.name==a.name||dQ a q)=false) ?_ λA ⟨hst,hn⟩=>?_⟩
  ·refine ae.upto [0,4,11,12,13,23,24] (.of (by kernel_rfl)) i (λj A=>A.env 25= .int .i64 j∧Ext σ A.st∧((l.take i).take j).any (λq=>q.name==a.name||dQ a q)=false) 0 (Nat.zero_le _) ?_ λj A hj ⟨h25,hst,hJ⟩=>?_
   ·simp only[go_sem,simprocAttr]
    simp[hst.app]
   simp only[go_sem,simprocAttr,h25,List.length_map]
   refine⟨λhj'=>⟨hj',?_⟩,λhj'=>⟨hst,by rwa [jU hj']at hJ⟩⟩
   obtain⟨b,hbj⟩:=get_some hj'
   simp only[av hbj]
   simp only[go_sem,simprocAttr,au,h25]
   refine aA.fnG (λ_=>Eg a b) ?_
   simp only[go_sem,simprocAttr,h25]
   refine⟨λhq=>⟨ai (sick ?_),hst.app _⟩,λhq=>⟨by omega,ah (show j<i by omega) (by omega),hst.app _,by rw[any_succ hbj,hJ,hq];rfl⟩⟩
   rw[pe,any_true hbj hq];simp
  simp only[go_sem,simprocAttr,au,h8]
  let ls:=[a.pre,a.dep]
  have e:[ax a.pre,ax a.dep]=ls.map ax:=rfl
  have hls: ∀l∈ls,l.length≤maxLen:=by simp only[ls];simp[hpre,hdep]
  have hms:(a.pre.any (λc=>!ll c l)||a.dep.any (λc=>!ll c l))=ls.any λd=>d.any λc=>!ll c l:=by simp only[ls];simp
  simp only[e]
  refine ae.ats [0,11,12,13] (.of (by kernel_rfl)) (λA=>Ext σ A.st∧(ls.any λd=>d.any λc=>!ll c l)=false) ?_ λA ⟨hst,hd⟩=>?_
  ·refine ae.upto [0,11,12,13,44] (.of (by kernel_rfl)) 2 (λk A=>A.env 45= .int .i64 k∧Ext σ A.st∧((ls.take k).any λd=>d.any λc=>!ll c l)=false) 0 (Nat.zero_le _) ?_ λk A hk ⟨h45,hst,hK⟩=>?_
   ·simp only[go_sem,simprocAttr]
    simp[hst]
   simp only[go_sem,simprocAttr,h45]
   refine⟨λhc=>?_,λhc=>⟨hst,by rwa [jU (by show 2≤k;omega)]at hK⟩⟩
   have hc':k<ls.length:=by show k<2;omega
   obtain⟨d,hd⟩:=get_some hc'
   have hl:=hls d (List.mem_of_getElem? hd)
   simp only[getD_map hd]
   simp only[go_sem,simprocAttr,ax,h45,List.length_map]
   refine⟨hc',ae.ats [0,11,12,13,44,45] (.of (by kernel_rfl)) (λA=>Ext σ A.st∧(d.any λc=>!ll c l)=false) ?_ λA ⟨hst,hd'⟩=>?_⟩
   ·refine ae.upto [0,11,12,13,44,45,48,49] (.of (by kernel_rfl)) d.length (λj A=>A.env 50= .int .i64 j∧Ext σ A.st∧((d.take j).any λc=>!ll c l)=false) 0 (Nat.zero_le _) ?_ λj A hj ⟨h50,hst,hJ⟩=>?_
    ·simp only[go_sem,simprocAttr]
     simp[hst]
    simp only[go_sem,simprocAttr,h50,List.length_map]
    refine⟨λhc'=>⟨hc',?_⟩,λhc'=>⟨hst,by rwa [jU hc']at hJ⟩⟩
    obtain⟨c,hcj⟩:=get_some hc'
    simp only[av hcj]
    simp only[go_sem,simprocAttr,h50]
    refine ak.fn (CS c l) ?_
    simp only[go_sem,simprocAttr,h50]
    refine⟨λhq=>⟨ai (sick ?_),hst⟩,λhq=>⟨hc',ah hc' hl,hst,by rw[any_succ hcj,hJ,hq];rfl⟩⟩
    rw[pe,hms,any_true hd (any_true hcj (by rw[hq];rfl))];simp
   simp only[go_sem,simprocAttr,h45]
   exact⟨by omega,ah (show k<2 by omega) (by rw[aq];omega),hst,by rw[any_succ hd,hK,hd'];rfl⟩
  simp only[go_sem,simprocAttr,h8]
  refine⟨hc,ah hc hl,hst,?_⟩
  have:pe l (l.take i) a=false:=by rw[pe,hn,hms,hd,hq];rfl
  rw[this,Bool.false_or,←aj ha]at hI
  exact hI
 ·rw[List.drop_eq_nil_of_le hc]at hI
  rw[dz,←hI];rfl
end Go.Proofs.Tryz
end
section
namespace Go.Av
section
variable {P :Program}{W0:World}{A:aa}
def Mk :AV→Option Nat
 | .row _ id _ _=>some id
 |_=>none
structure en (σ st:ab)(v:AV)(e:TypeId)(xs:List AV):Prop where
 row:di st v e xs
 ext:Ext σ st
 low: ∀id,Mk v=some id→σ.length≤id
theorem en.nil {σ st:ab}(h:Ext σ st)(e:TypeId):en σ st .az e []:=⟨.inl ⟨rfl,rfl⟩,h,λt h=>by cases h⟩
theorem en.notM {σ st:ab}{v:AV}{e:TypeId}{xs:List AV}(h:en σ st v e xs):cJ v:=by
 rcases h.row with⟨rfl,rfl⟩|rfl|⟨_,_,_,_,rfl,_⟩<;>trivial
theorem en.ok {σ st:ab}{v:AV}{e:TypeId}{xs:List AV}(h:en σ st v e xs)(g:Option Bool):okM g v=True:=bR h.notM
theorem en.un {σ st:ab}{v:AV}{e:TypeId}{xs:List AV}(h:en σ st v e xs):unm v=v:=cp h.notM
theorem di.len {st:ab}{v:AV}{e:TypeId}{xs:List AV}(h:di st v e xs):lX v= .int .i64 xs.length:=by
 rcases h with⟨rfl,rfl⟩|rfl|⟨id,off,m,zs,rfl,_,h1,rfl⟩
 ·rfl
 ·rfl
 ·have:((zs.drop off).take m).length=m:=by simp;omega
  rw[this];rfl
theorem di.fO {st:ab}{v:AV}{e:TypeId}{xs:List AV}(h:di st v e xs)(P:Program)(t:TypeId):fO P t v=((elT P t).isSome=true):=by
 rcases h with⟨rfl,rfl⟩|rfl|⟨id,off,m,zs,rfl,_,h1,rfl⟩<;>rfl
theorem di.read {st:ab}{v:AV}{e:TypeId}{xs:List AV}(h:di st v e xs):fh st v e xs:=by
 rcases h with h|rfl|h
 ·exact .inr (.inl h)
 ·exact .inl rfl
 ·exact .inr (.inr h)
theorem en.more {σ st:ab}{v:AV}{e:TypeId}{xs:List AV}(h:en σ st v e xs)(l:ab):en σ (st++l) v e xs:=by
 refine⟨?_,h.ext.app l,h.low⟩
 rcases h.row with h1|h1|⟨id,off,m,zs,h1,h2,h3⟩
 ·exact .inl h1
 ·exact .inr (.inl h1)
 ·exact .inr (.inr ⟨id,off,m,zs,h1,by rw[List.getElem?_append_left ((List.getElem?_eq_some_iff.1 h2).1)];exact h2,h3⟩)
theorem en.Nr {σ st:ab}{v:AV}{e:TypeId}{xs:List AV}(h:en σ st v e xs)(l:ab):Ext σ (bQ v st++l):=by
 refine Ext.app ?_ l
 unfold bQ
 split
 ·exact h.ext.set (h.low _ rfl) _
 ·exact h.ext
theorem bM.iE {σ:ab}{t u e:TypeId}{x y:AV}{xs ys:List AV}{dst:Option Nat}{k:aa→Prop}(N:Nat)(ho:xj P t u e N=true)(h:en σ A.st x e xs)(hy:fh A.st y e ys)(hN:xs.length+ys.length≤N)
  (hk: ∀v st',en σ st' v e (xs++ys)→k ((A.put dst v).an st')):bM P [t,u] [x,y] dst A k .mk:=by
 refine bM.row N ho h.row hy hN (λhe=>hk _ _ (by rw[he,List.append_nil];exact h)) λhe=>hk _ _ ⟨.inr (.inr ⟨A.st.length,0,_,xs++ys,rfl,?_,by simp,by rw[List.drop_zero,List.take_of_length_le (by simp)]⟩),h.Nr _,λid hid=>?_⟩
 ·have:(bQ x A.st).length=A.st.length:=by unfold bQ;split<;>simp
  rw[←this,List.getElem?_append_right (Nat.le_refl _),Nat.sub_self]
  rfl
 ·cases hid
  exact h.ext.le
theorem en.JS {σ:ab}{v:AV}{e:TypeId}{xs:List AV}{d:Nat}{x:Exit}(h:en σ A.st v e xs)(hx:x= .ret∨x= .normal)(hd:A.env d=v):bO (λA=>cR (gZ A.env [d]) (.sl e xs)∧A.st.take σ.length=σ) x A:=by
 have fin: ∀{B:aa},cR (gZ B.env [d]) (.sl e xs)→B.st.take σ.length=σ→bO (λA=>cR (gZ A.env [d]) (.sl e xs)∧A.st.take σ.length=σ) x B:=λh1 h2=>by
  rcases hx with rfl|rfl
  ·exact .ret ⟨h1,h2⟩
  ·exact .normal ⟨h1,h2⟩
 rcases h.row with⟨rfl,rfl⟩|rfl|⟨id,off,m,zs,rfl,h1,h2,rfl⟩
 ·exact fin (by simp only[gZ,hd];exact .az _) h.ext
 ·exact fin (by simp only[gZ,hd];exact .lit _ _) h.ext
 ·refine bO.frz d hd h1 h2 (fin ?_ ?_)
  ·simp[gZ,aa.upd,aa.an]
   exact .refl _
  ·exact h.ext.set (h.low _ rfl) _
end
end Go.Av
end
section
namespace Go.Proofs.Tryz
open Go Go.Av
set_option maxRecDepth 10000
variable {W0 :World}
theorem Jx (σ:ab)(n:Nat)(hn:n≤1048576):
  aY prog W0 131 [.az,.int .i64 n] σ λr σ'=>en σ σ' r 72 []:=by
 refine cK [4] [] func131 rfl rfl ntmps131 rfl rfl λhs=>?_
 simp only[go_sem,simprocAttr]
 refine cB.at [0,1] (by kernel_rfl) (λA=>A.st=σ) (λh=>absurd (of_decide_eq_true h) (by omega)) (λ_=>?_) λB hst=>?_
 ·simp only[go_sem,simprocAttr]
 simp only[go_sem,simprocAttr,hst]
 have hw:IntKind.i64.wrap ((n:Int)-0)=n:=by rw[Int.sub_zero,aE (by omega)]
 simp only[hw]
 refine cB.at [] (by kernel_rfl) (λA=>en σ A.st (A.env 0) 72 []) (λh=>?_) (λ_=>?_) λB hb=>?_
 ·simp only[go_sem,simprocAttr,hst]
  refine bM.zero (e:=72) 1048576 (by kernel_rfl) (kn:=.i64) (by kernel_rfl) (z:=.az) (by kernel_rfl) (by kernel_rfl) (by have:=of_decide_eq_true h;omega) hn ?_
  simp only[go_sem,simprocAttr,hst]
  exact⟨Nat.zero_le _,.inr (.inr ⟨_,0,0,List.replicate n .az,rfl,by simp,by simp,rfl⟩),(Ext.refl _).app _,λid h=>by cases h;exact Nat.le_refl _⟩
 ·simp only[go_sem,simprocAttr,hst]
  exact .nil (.refl _) _
 simp only[go_sem,simprocAttr,hb.ok,hb.un]
 refine bO.ret ?_
 simp only[go_sem,simprocAttr]
 exact⟨_,.refl _,hb.ext.le,hb⟩
theorem mK {α:Type}{ls:List (List α)}{i:Nat}{l:List α}(h:ls[i]?=some l):(ls.take (i+1)).flatten=(ls.take i).flatten++l:=by
 rw[aj h,List.flatten_append];simp
theorem vJ (ls:List (List Clause))(hls:ls.length≤1048576)(hn:ls.flatten.length≤1048576):
  ag prog W0 72 [.sl 50 (ls.map ax)] (ax ls.flatten):=by
 refine ki [2] [] func72 rfl rfl ntmps72 rfl rfl (dt _) λhs σ=>?_
 have hfl: ∀i,(ls.take i).flatten.length≤1048576:=λi=>by
  have:ls.flatten.length=(ls.take i).flatten.length+(ls.drop i).flatten.length:=by
   rw[←List.length_append,←List.flatten_append,List.take_append_drop]
  omega
 simp only[go_sem,simprocAttr,List.length_map]
 refine ae.at [0] (.of (by kernel_rfl)) (λA=>A.env 3= .int .i64 ls.flatten.length∧A.st=σ) ?_ λB ⟨h3,hst⟩=>?_
 ·refine ae.upto [0,9,10] (.of (by kernel_rfl)) ls.length (λi A=>A.env 11= .int .i64 i∧A.st=σ∧A.env 3= .int .i64 (ls.take i).flatten.length) 0 (Nat.zero_le _) ?_ λi B hi ⟨h8,hst,h3⟩=>?_
  ·simp only[go_sem,simprocAttr]
   try simp
  simp only[go_sem,simprocAttr,h8,h3,hst,List.length_map]
  refine⟨λhc=>⟨hc,?_⟩,λhc=>by rw[List.take_of_length_le hc]⟩
  obtain⟨l,hl⟩:=get_some hc
  simp only[av hl]
  have h1:=hfl i
  have h2:=hfl (i+1)
  rw[mK hl,List.length_append]at h2
  have hw:IntKind.i64.wrap (((ls.take i).flatten.length:Int)+(l.length:Int))=(((ls.take (i+1)).flatten.length:Nat):Int):=by
   rw[mK hl,List.length_append,aE (by omega),Int.natCast_add]
  simp only[go_sem,simprocAttr,ax,h8,h3,hst,List.length_map,hw]
  exact⟨λh=>absurd h (by omega),λ_=>⟨hc,ah hc (by rw[aq];omega)⟩⟩
 simp only[go_sem,simprocAttr,h3,hst]
 refine ak.goes (by simp only[go_sem,simprocAttr,hst]) (Jx σ _ hn) λr σ' hr=>?_
 simp only[go_sem,simprocAttr,h3,hst,hr.ok,hr.un,List.length_map]
 refine ae.at [] (.of (by kernel_rfl)) (λA=>∃ v,A.env 6=v∧en σ A.st v 72 (ls.flatten.map aC)) ?_ λB ⟨v,h6,hb⟩=>?_
 ·refine ae.upto [25,26] (.of (by kernel_rfl)) ls.length (λi A=>A.env 27= .int .i64 i∧ ∃v,A.env 6=v∧en σ A.st v 72 ((ls.take i).flatten.map aC)) 0 (Nat.zero_le _) ?_ λi B hi ⟨h8,v,h6,hb⟩=>?_
  ·simp only[go_sem,simprocAttr]
   exact⟨_,rfl,hr⟩
  simp only[go_sem,simprocAttr,h8,h6,List.length_map]
  refine⟨λhc=>⟨hc,?_⟩,λhc=>⟨_,rfl,by rw[List.take_of_length_le hc]at hb;exact hb⟩⟩
  obtain⟨l,hl⟩:=get_some hc
  have h2:=hfl (i+1)
  rw[mK hl,List.length_append]at h2
  simp only[av hl]
  simp only[go_sem,simprocAttr,ax,h8,h6,hb.ok,hb.un,List.length_map]
  refine bM.iE 1048576 (by kernel_rfl) hb (.sl _ _ _) (by rw[List.length_map,List.length_map];exact h2) λv' st' hb'=>?_
  simp only[go_sem,simprocAttr,h8]
  refine⟨hc,ah hc (by rw[aq];omega),_,rfl,?_⟩
  rw[mK hl,List.map_append]
  exact hb'
 simp only[go_sem,simprocAttr,h6,hb.ok,hb.un]
 exact en.JS (hb) (.inl rfl) (by simp only[go_sem,simprocAttr])
end Go.Proofs.Tryz
end
section
namespace Go.Av
theorem ak.Nz {P:Program}{W0:World}{A:aa}{g:FuncId}{caps us:List AV}{dst:Option Nat}{k:aa→Prop}{r:AV}{σ:ab}(hσ:A.st=σ)(h:aY P W0 g (us++caps) σ λr' σ'=>r'=r∧σ'=σ)(hk:k (A.put dst r)):ak P W0 (.fn g caps) us dst A k .mk:=.go hσ h λr' σ' ⟨h1,h2⟩=>by
 subst h1 h2 hσ
 rwa [nX]
section
variable {P :Program}
@[go_sem] theorem Qa (t t':TypeId)(id i:Nat)(path:List Nat):ca P .neq t (.ptr t' id i path) .nil=if eN P t then .bool true else .undef:=by simp only[ca,cd,jm,AV.gj,Bool.and_true];split<;>rfl
@[go_sem] theorem QA (t t':TypeId)(id i:Nat)(path:List Nat):cj P .neq t (.ptr t' id i path) .nil=(eN P t=true):=by simp only[cj,cd,jm,AV.gj,Bool.and_true];split<;>simp_all
@[go_sem] theorem R9 (t t':TypeId)(id i:Nat)(path:List Nat):ca P .eql t (.ptr t' id i path) .nil=if eN P t then .bool false else .undef:=by simp only[ca,cd,jm,AV.gj,Bool.and_true];split<;>rfl
@[go_sem] theorem RX (t t':TypeId)(id i:Nat)(path:List Nat):cj P .eql t (.ptr t' id i path) .nil=(eN P t=true):=by simp only[cj,cd,jm,AV.gj,Bool.and_true];split<;>simp_all
@[go_sem] theorem Qo (t:TypeId):ca P .eql t .nil .nil=if eN P t then .bool true else .undef:=by simp only[ca,cd,jm];split<;>rfl
@[go_sem] theorem Rs (t:TypeId):cj P .eql t .nil .nil=(eN P t=true):=by simp only[cj,cd,jm];split<;>simp_all
end
structure Fr (F:List Nat)(σ σ':ab):Prop where
 len:σ.length≤σ'.length
 old: ∀j,j<σ.length→j∉F→σ'[j]?=σ[j]?
def bc :AV→List Nat
 | .own _ _ t=>[t]
 | .row _ id _ _=>[id]
 |_=>[]
theorem Fr.refl (F:List Nat)(σ:ab):Fr F σ σ:=⟨Nat.le_refl _,λ_ _ _=>rfl⟩
theorem Fr.ext {F:List Nat}{σ σ':ab}(h:Ext σ σ'):Fr F σ σ':=⟨h.le,λj hj _=>by
 have e:=congrArg (·[j]?) h
 simpa[List.getElem?_take,hj]using e⟩
theorem Fr.trans {F G:List Nat}{σ σ' σ'':ab}(h:Fr F σ σ')(h':Fr G σ' σ'')(hG: ∀j∈G,j∈F∨σ.length≤j):Fr F σ σ'':=⟨Nat.le_trans h.len h'.len,λj hj hF=>by
 rw[h'.old j (Nat.lt_of_lt_of_le hj h.len) (λe=>by rcases hG j e with h1|h1;exact hF h1;omega),h.old j hj hF]⟩
theorem Fr.set {F:List Nat}{σ σ':ab}(h:Fr F σ σ'){id:Nat}(hid:id∈F∨σ.length≤id)(o:Option cX):Fr F σ (σ'.set id o):=⟨by simpa using h.len,λj hj hF=>by
 rw[List.getElem?_set_ne (λe=>by subst e;rcases hid with h1|h1;exact hF h1;omega),h.old j hj hF]⟩
theorem Fr.app {F:List Nat}{σ σ':ab}(h:Fr F σ σ')(l:ab):Fr F σ (σ'++l):=⟨by have:=h.len;simp;omega,λj hj hF=>by
 rw[List.getElem?_append_left (by have:=h.len;omega),h.old j hj hF]⟩
theorem Fr.mono {F G:List Nat}{σ σ':ab}(h:Fr F σ σ')(hG: ∀j∈F,j∈G):Fr G σ σ':=⟨h.len,λj hj hF=>h.old j hj λe=>hF (hG j e)⟩
theorem Fr.Gp {F:List Nat}{σ σ':ab}(h:Fr F σ σ'){τ:ab}(ht:Ext τ σ)(hF: ∀j∈F,τ.length≤j):Ext τ σ':=by
 refine List.ext_getElem? λi=>?_
 have:=ht.le
 have:=h.len
 rw[List.getElem?_take]
 by_cases hi:i<τ.length
 ·rw[if_pos hi,h.old i (by omega) (λe=>by have:=hF i e;omega)]
  have e:=congrArg (·[i]?) ht
  simpa[List.getElem?_take,hi]using e
 ·rw[if_neg hi,List.getElem?_eq_none (by omega)]
theorem ga {σ:ab}{id:Nat}{te:TypeId}{xs:List AV}(h:id<σ.length):live (σ.set id (some (.cells te xs))) id=True:=eq_true ⟨te,xs,by simp[h]⟩
theorem ay {σ:ab}{id:Nat}{te:TypeId}{xs:List AV}(h:σ[id]?=some (some (.cells te xs))):live σ id=True:=eq_true ⟨te,xs,h⟩
theorem Bld.notM {st:ab}{v:AV}{e:TypeId}{xs:List AV}(h:Bld st v e xs):cJ v:=by
 rcases h with⟨rfl,rfl⟩|rfl|⟨t,rfl,_⟩<;>trivial
theorem Bld.ok {st:ab}{v:AV}{e:TypeId}{xs:List AV}(h:Bld st v e xs)(g:Option Bool):okM g v=True:=bR h.notM
theorem Bld.un {st:ab}{v:AV}{e:TypeId}{xs:List AV}(h:Bld st v e xs):unm v=v:=cp h.notM
theorem Bld.len {st:ab}{v:AV}{e:TypeId}{xs:List AV}(h:Bld st v e xs):lX v= .int .i64 xs.length:=by
 rcases h with⟨rfl,rfl⟩|rfl|⟨t,rfl,_⟩<;>rfl
theorem Bld.fO {st:ab}{v:AV}{e:TypeId}{xs:List AV}(h:Bld st v e xs)(P:Program)(t:TypeId):fO P t v=((elT P t).isSome=true):=by
 rcases h with⟨rfl,rfl⟩|rfl|⟨t,rfl,_⟩<;>rfl
theorem Bld.fits {st:ab}{v:AV}{e:TypeId}{xs:List AV}(h:Bld st v e xs)(P:Program)(t:TypeId):bq P t v=cD P t:=by
 rcases h with⟨rfl,rfl⟩|rfl|⟨t,rfl,_⟩<;>rfl
theorem di.fits {st:ab}{v:AV}{e:TypeId}{xs:List AV}(h:di st v e xs)(P:Program)(t:TypeId):bq P t v=cD P t:=by
 rcases h with⟨rfl,rfl⟩|rfl|⟨_,_,_,_,rfl,_⟩<;>rfl
theorem di.notM {st:ab}{v:AV}{e:TypeId}{xs:List AV}(h:di st v e xs):cJ v:=by
 rcases h with⟨rfl,rfl⟩|rfl|⟨_,_,_,_,rfl,_⟩<;>trivial
theorem di.ok {st:ab}{v:AV}{e:TypeId}{xs:List AV}(h:di st v e xs)(g:Option Bool):okM g v=True:=bR h.notM
theorem di.un {st:ab}{v:AV}{e:TypeId}{xs:List AV}(h:di st v e xs):unm v=v:=cp h.notM
theorem bM.yY {P:Program}{A:aa}{σ:ab}{t u e:TypeId}{x y:AV}{xs ys:List AV}{dst:Option Nat}{k:aa→Prop}(hσ:A.st=σ)(N:Nat)(ho:xj P t u e N=true)(hb:Bld σ x e xs)(hy:fh σ y e ys)(hN:xs.length+ys.length≤N)
  (hk: ∀v σ',App σ x e (xs++ys) v σ'→k ((A.put dst v).an σ')):bM P [t,u] [x,y] dst A k .mk:=by
 subst hσ
 exact .own N ho hb hy hN hk
def dG (σ:ab)(x:AV)(e:TypeId)(xs:List AV):Prop:=(x= .az∧xs=[])∨ ∃id off m zs,x= .row e id off m∧σ[id]?=some (some (.cells e zs))∧off+m≤zs.length∧xs=(zs.drop off).take m
theorem dG.st {σ:ab}{v:AV}{e:TypeId}{xs:List AV}(h:dG σ v e xs):di σ v e xs:=by
 rcases h with h|h
 ·exact .inl h
 ·exact .inr (.inr h)
def rM (a b:Nat):AV→AV
 | .row e id off _=>.row e id (off+a) (b-a)
 |v=>v
@[go_sem] theorem SD (a b:Nat)(e:TypeId)(id off m:Nat):rM a b (.row e id off m)= .row e id (off+a) (b-a):=rfl
@[go_sem] theorem PT (a b:Nat):rM a b .az= .az:=rfl
theorem dG.AK {σ:ab}{e:TypeId}{xs:List AV}{id off m:Nat}{zs:List AV}(h:off+m≤zs.length)(hx:xs=(zs.drop off).take m):xs.length=m:=by
 rw[hx];simp;omega
theorem dG.N7 {σ:ab}{v:AV}{e:TypeId}{xs:List AV}(h:dG σ v e xs)(A:aa)(lo hi:Option Operand):j4 A lo hi v=rM (cY A 0 lo) (cY A xs.length hi) v:=by
 rcases h with⟨rfl,rfl⟩|⟨id,off,m,zs,rfl,h1,h2,h3⟩
 ·rfl
 ·rw[dG.AK (σ:=σ) (e:=e) (id:=id) h2 h3];rfl
theorem dG.lu {P:Program}{gd:Option Bool}{σ:ab}{v:AV}{e:TypeId}{xs:List AV}(h:dG σ v e xs){t:TypeId}(ht:elT P t=some e)(A:aa)(lo hi:Option Operand):jh P gd A t lo hi v=(0<af P e∧Go.Av.lu gd A lo hi xs.length):=by
 rcases h with⟨rfl,rfl⟩|⟨id,off,m,zs,rfl,h1,h2,h3⟩
 ·rw[yM,ht]
  simp only[Option.isSome_some,true_and,Option.getD_some,Go.Av.lu,List.length_nil,Nat.le_zero]
  have:imp gd (cY A 0 lo=0∧cY A 0 hi=0)=imp gd (cY A 0 lo≤cY A 0 hi∧cY A 0 hi=0):=by
   congr 1
   refine propext ⟨λ⟨h1,h2⟩=>⟨by omega,h2⟩,λ⟨h1,h2⟩=>⟨by omega,h2⟩⟩
  rw[this]
 ·rw[BX,ht,dG.AK (σ:=σ) (e:=e) (id:=id) h2 h3]
  simp
theorem dG.cut {σ:ab}{v:AV}{e:TypeId}{xs:List AV}(h:dG σ v e xs){a b:Nat}(hab:a≤b)(hb:b≤xs.length):dG σ (rM a b v) e ((xs.drop a).take (b-a)):=by
 rcases h with⟨rfl,rfl⟩|⟨id,off,m,zs,rfl,h1,h2,h3⟩
 ·exact .inl ⟨rfl,by simp⟩
 ·have hl:=dG.AK (σ:=σ) (e:=e) (id:=id) h2 h3
  refine .inr ⟨id,off+a,b-a,zs,rfl,h1,by omega,?_⟩
  rw[h3,List.drop_take,List.drop_drop,List.take_take,Nat.min_eq_left (by omega)]
theorem my (a b:Nat)(v:AV):bc (rM a b v)=bc v:=by cases v<;>rfl
theorem dG.eC {st st':ab}{v:AV}{e:TypeId}{xs:List AV}(h:dG st v e xs)(hk: ∀j∈bc v,st'[j]?=st[j]?):dG st' v e xs:=by
 rcases h with h|⟨id,off,m,zs,rfl,h,h2⟩
 ·exact .inl h
 ·exact .inr ⟨id,off,m,zs,rfl,by rw[hk id (by simp[bc]),h],h2⟩
theorem dG.lt {st:ab}{v:AV}{e:TypeId}{xs:List AV}(h:dG st v e xs): ∀j∈bc v,j<st.length:=by
 rcases h with⟨rfl,_⟩|⟨id,off,m,zs,rfl,h,_⟩
 ·simp[bc]
 ·intro j hj;simp[bc]at hj;subst hj;exact(List.getElem?_eq_some_iff.1 h).1
theorem dG.ne {st:ab}{v:AV}{e te:TypeId}{xs ys:List AV}(h:dG st v e xs){id:Nat}(hid:st[id]?=some (some (.cells te ys)))(ht:te≠e):id∉bc v:=λhj=>by
 rcases h with⟨rfl,_⟩|⟨id',off,m,zs,rfl,h,_⟩
 ·simp[bc]at hj
 ·simp[bc]at hj;subst hj;rw[hid]at h;cases h;exact ht rfl
structure Ur (σ:ab)(x:AV)(e:TypeId)(zs:List AV)(v:AV)(σ':ab):Prop where
 row:dG σ' v e zs
 fr:Fr (bc x) σ σ'
 bc: ∀j∈bc v,j∈bc x∨σ.length≤j
theorem bM.wO {P:Program}{A:aa}{σ:ab}{t u e:TypeId}{x y:AV}{xs ys:List AV}{dst:Option Nat}{k:aa→Prop}(hσ:A.st=σ)(N:Nat)(ho:xj P t u e N=true)(hb:dG σ x e xs)(hy:fh σ y e ys)(hN:xs.length+ys.length≤N)
  (hk: ∀v σ',Ur σ x e (xs++ys) v σ'→k ((A.put dst v).an σ')):bM P [t,u] [x,y] dst A k .mk:=by
 subst hσ
 have hkl:(bQ x A.st).length=A.st.length:=by unfold bQ;split<;>simp
 refine bM.row N ho hb.st hy hN (λhe=>hk _ _ ⟨by rw[he,List.append_nil];exact hb,.refl _ _,λj hj=>.inl hj⟩) λhe=>hk _ _ ⟨.inr ⟨A.st.length,0,_,xs++ys,rfl,?_,by simp,by rw[List.drop_zero,List.take_of_length_le (by simp)]⟩,?_,λj hj=>?_⟩
 ·rw[←hkl,List.getElem?_append_right (Nat.le_refl _),Nat.sub_self]
  rfl
 ·refine Fr.app ?_ _
  unfold bQ
  split
  ·exact(Fr.refl _ _).set (.inl (by simp[Go.Av.bc])) _
  ·exact .refl _ _
 ·simp[Go.Av.bc]at hj
  subst hj
  exact .inr (Nat.le_refl _)
theorem Bld.bZ {st:ab}{v:AV}{e:TypeId}{xs:List AV}(h:Bld st v e xs):cR v (.sl e xs):=by
 rcases h with⟨rfl,rfl⟩|rfl|⟨t,rfl,_⟩
 ·exact .az _
 ·exact .lit _ _
 ·exact .own _ _ _
theorem App.fr {σ σ':ab}{x v:AV}{e:TypeId}{zs:List AV}(h:App σ x e zs v σ'):Fr (bc x) σ σ':=⟨h.len,λj hj hF=>h.old j hj λe=>hF (by cases x<;>simp[eW]at e;subst e;simp[bc])⟩
theorem xY {st:ab}{v:AV}{e:TypeId}{xs:List AV}(h:Bld st v e xs){j:Nat}:j∈bc v↔eW v=some j:=by
 rcases h with⟨rfl,rfl⟩|rfl|⟨t,rfl,_⟩
 ·simp[bc,eW]
 ·simp[bc,eW]
 ·simp[bc,eW];exact eq_comm
theorem App.bc {σ σ':ab}{x v:AV}{e:TypeId}{zs xs:List AV}(h:App σ x e zs v σ')(hx:Bld σ x e xs): ∀j∈bc v,j∈bc x∨σ.length≤j:=λj hj=>by
 rw[xY h.bld]at hj
 rw[xY hx]
 rcases h.tok with e1|⟨t,e1,e2⟩
 ·left;rw[←e1];exact hj
 ·right;rw[e1]at hj;cases hj;exact e2
theorem Bld.eC {st st':ab}{v:AV}{e:TypeId}{xs:List AV}(h:Bld st v e xs)(hk: ∀j∈bc v,st'[j]?=st[j]?):Bld st' v e xs:=by
 rcases h with h|h|⟨t,rfl,h⟩
 ·exact .inl h
 ·exact .inr (.inl h)
 ·exact .inr (.inr ⟨t,rfl,by rw[hk t (by simp[bc]),h]⟩)
theorem Bld.lt {st:ab}{v:AV}{e:TypeId}{xs:List AV}(h:Bld st v e xs): ∀j∈bc v,j<st.length:=by
 rcases h with⟨rfl,_⟩|rfl|⟨t,rfl,h⟩
 ·simp[bc]
 ·simp[bc]
 ·intro j hj;simp[bc]at hj;subst hj;exact(List.getElem?_eq_some_iff.1 h).1
theorem Bld.ne {st:ab}{v:AV}{e:TypeId}{xs:List AV}(h:Bld st v e xs){id:Nat}{o:cX}(hid:st[id]?=some (some o))(ho:o≠ .tok):id∉bc v:=λhj=>by
 rcases h with⟨rfl,_⟩|rfl|⟨t,rfl,h⟩
 ·simp[bc]at hj
 ·simp[bc]at hj
 ·simp[bc]at hj;subst hj;rw[hid]at h;cases h;exact ho rfl
theorem di.eC {st st':ab}{v:AV}{e:TypeId}{xs:List AV}(h:di st v e xs)(hk: ∀j∈bc v,st'[j]?=st[j]?):di st' v e xs:=by
 rcases h with h|h|⟨id,off,m,zs,rfl,h,h2⟩
 ·exact .inl h
 ·exact .inr (.inl h)
 ·exact .inr (.inr ⟨id,off,m,zs,rfl,by rw[hk id (by simp[bc]),h],h2⟩)
theorem di.lt {st:ab}{v:AV}{e:TypeId}{xs:List AV}(h:di st v e xs): ∀j∈bc v,j<st.length:=by
 rcases h with⟨rfl,_⟩|rfl|⟨id,off,m,zs,rfl,h,_⟩
 ·simp[bc]
 ·simp[bc]
 ·intro j hj;simp[bc]at hj;subst hj;exact(List.getElem?_eq_some_iff.1 h).1
def ng (M:Nat→Bool)(l:Int):Bool:=if 0<l then M l.natAbs else !M l.natAbs
def ic (M:Nat→Bool)(c:List Int):Bool:=c.any (ng M)
def dh (M:Nat→Bool)(cls:List (List Int)):Bool:=cls.all (ic M)
def wfL (n:Nat)(l:Int):Bool:=decide (l≠0)&&decide (l.natAbs≤n)
def wfC (n:Nat)(c:List Int):Bool:=c.all (wfL n)
theorem ub {M:Nat→Bool}{l:Int}(h:l≠0):ng M (-l)= !ng M l:=by
 unfold ng
 rw[Int.natAbs_neg]
 by_cases h1:0<l
 ·rw[if_pos h1,if_neg (by omega)]
 ·rw[if_neg h1,if_pos (by omega),Bool.not_not]
theorem vZ {M:Nat→Bool}{c d:List Int}(h: ∀l,l∈c↔l∈d):ic M c=ic M d:=by
 unfold ic
 rw[Bool.eq_iff_iff,List.any_eq_true,List.any_eq_true]
 exact⟨λ⟨l,h1,h2⟩=>⟨l,(h l).1 h1,h2⟩,λ⟨l,h1,h2⟩=>⟨l,(h l).2 h1,h2⟩⟩
end Go.Av
end
section
namespace Go.Proofs.Tryz
open Go Go.Av
set_option maxRecDepth 10000
variable {W0 :World}
theorem MW {α:Type}(enc:α→AV)(hp: ∀a,cJ (enc a))(l:List α)(q:α→Bool)(g:FuncId)(caps:List AV)(σ:ab)(h: ∀a∈l,aY prog W0 g ([enc a]++caps) σ λr σ'=>r= .bool (q a)∧σ'=σ):
  aY prog W0 195 [.sl 135 (l.map enc),.fn g caps] σ λr σ'=>r= .int .i64 (gw q l)∧σ'=σ:=by
 refine lM [4] [] func195 rfl rfl ntmps195 rfl rfl (.int _ _) λhs=>?_
 have hl:=(aH (hs _ (List.mem_cons_self ..))).1
 simp only[go_sem,simprocAttr]
 refine ae.upto [0,1,7] (.of (by kernel_rfl)) l.length (λi A=>A.env 8= .int .i64 i∧A.st=σ∧ ∀a∈l.take i,q a=false) 0 (Nat.zero_le _) ?_ λi B hi ⟨h8,hst,hI⟩=>?_
 ·simp only[go_sem,simprocAttr]
  all_goals simp
 simp only[go_sem,simprocAttr,h8,hst,List.length_map]
 refine⟨λhc=>⟨hc,?_⟩,λhc=>bO.ret ?_⟩
 ·obtain⟨a,ha⟩:=get_some hc
  simp only[av ha,bR (hp a),cp (hp a),true_and]
  refine ak.Nz (by simp only[go_sem,simprocAttr,hst]) (h a (List.mem_of_getElem? ha)) ?_
  simp only[go_sem,simprocAttr,h8,hst]
  refine⟨λhq=>bO.ret ?_,λhq=>⟨hc,ah hc hl,?_⟩⟩
  ·simp only[go_sem,simprocAttr,hst]
   exact ar (fp ha hq hI).symm
  rw[aj ha]
  intro b hb
  rcases List.mem_append.1 hb with hb|hb
  ·exact hI b hb
  ·rw[List.mem_singleton.1 hb];exact hq
 ·simp only[go_sem,simprocAttr,hst]
  rw[dr (by rwa [List.take_of_length_le hc]at hI)]
  exact .refl _
theorem Gr {α:Type}(enc:α→AV)(hp: ∀a,cJ (enc a))(l:List α)(q:α→Bool)(g:FuncId)(caps:List AV)(σ:ab)(h: ∀a∈l,aY prog W0 g ([enc a]++caps) σ λr σ'=>r= .bool (q a)∧σ'=σ):
  aY prog W0 139 [.sl 135 (l.map enc),.fn g caps] σ λr σ'=>r= .bool (l.any q)∧σ'=σ:=by
 refine lM [4] [] func139 rfl rfl ntmps139 rfl rfl (.bool _) λhs=>?_
 simp only[go_sem,simprocAttr]
 refine ak.reads (by simp only[go_sem,simprocAttr]) (MW enc hp l q g caps σ h) ?_
 simp only[go_sem,simprocAttr]
 refine bO.ret ?_
 simp only[go_sem,simprocAttr]
 rw[iP]
 exact .refl _
theorem jJ (l:Int)(h:l.natAbs≤9223372036854775807):ag prog W0 185 [.int .i64 l] (.int .u64 (l.natAbs:Nat)):=by
 refine al [2] [] func185 rfl rfl ntmps185 rfl rfl (.int _ _) λhs σ=>?_
 simp only[go_sem,simprocAttr]
 refine⟨λh0=>ar ?_,λh0=>ar ?_⟩
 ·rw[IntKind.wrap_u64,IntKind.wrap_u64];omega
 ·rw[IntKind.wrap_u64];omega
def eA (c:List Int):AV:=.sl 135 (c.map (.int .i64))
def sW (l:List (List Int)):AV:=.sl 136 (l.map eA)
theorem cJ.int64 (n:Int):cJ (AV.int .i64 n):=trivial
theorem cJ.lits (c:List Int):cJ (eA c):=trivial
@[go_sem] theorem OJ (g:Option Bool)(l:List Int):okM g (eA l)=True:=eq_true trivial
@[go_sem] theorem OV (l:List Int):unm (eA l)=eA l:=rfl
@[go_sem] theorem Kr (P:Program)(t:TypeId)(l:List Int):bq P t (eA l)=cD P t:=rfl
def sN (n:Nat)(cv:AV):Option cX:=some (.cells 191 [.agg 191 [.int .i64 n,cv]])
theorem K9 (σ:ab)(id n:Nat)(cv:AV)(hid:σ[id]?=some (sN n cv))(hn:n≤9223372036854775807)(l:Int)(hl:l.natAbs≤9223372036854775807):
  aY prog W0 184 [.int .i64 l,.loc 130 (.ptr 191 id 0 [])] σ λr σ'=>r= .bool (!wfL n l)∧σ'=σ:=by
 refine lM [3] [] func184 rfl rfl ntmps184 rfl rfl (.bool _) λhs=>?_
 simp only[go_sem,simprocAttr]
 refine⟨.of (by kernel_rfl),aA.fnG (λ_=>jJ l hl) ?_⟩
 simp only[go_sem,simprocAttr,aw hid]
 refine bO.ret ?_
 simp only[go_sem,simprocAttr]
 refine ai ?_
 have hw:IntKind.u64.wrap (n:Int)=n:=by rw[IntKind.wrap_u64];omega
 rw[hw,wfL,Bool.not_and,←decide_not,←decide_not]
 congr 1
 ·rw[Bool.eq_iff_iff];simp
 ·exact decide_eq_decide.2 (by omega)
theorem NX (σ:ab)(id n:Nat)(cv:AV)(cls:List (List Int))(hid:σ[id]?=some (sN n cv))(hb:Bld σ cv 136 (cls.map eA))(hn:n≤9223372036854775807)(hc5:cls.length<5000)(c:List Int)(hc: ∀l∈c,l.natAbs≤9223372036854775807):
  aY prog W0 134 [.ptr 191 id 0 [],eA c] σ λr σ'=>r= .bool (wfC n c)∧σ'=σ:=by
 refine lM [4] [2] func134 rfl rfl ntmps134 rfl rfl (.bool _) λhs=>?_
 have h5:decide ((cls.length:Int)<5000)=true:=decide_eq_true (by omega)
 simp only[go_sem,simprocAttr,aw hid,hb.ok,hb.un,hb.len,hb.fO,List.length_map,h5]
 refine aA.st (λ_=>Gr (.int .i64) cJ.int64 c (λl=>!wfL n l) _ [.loc 130 (.ptr 191 id 0 [])] σ λl hl=>K9 σ id n cv hid hn l (hc l hl)) ?_
 simp only[go_sem,simprocAttr]
 refine bO.ret ?_
 simp only[go_sem,simprocAttr]
 refine ai ?_
 rw[wfC,List.all_eq_not_any_not]
theorem xT (σ:ab)(c:List Int)(h0:c≠[])(hl:c.length≤1048576):aY prog W0 186 [eA c] σ λr σ'=>r= .row 135 σ.length 0 c.length∧σ'=σ++[some (.cells 135 (c.map (.int .i64)))]:=by
 refine cK [2] [] func186 rfl rfl ntmps186 rfl rfl λhs=>?_
 cases c with
 |nil=>exact absurd rfl h0
 |cons x c=>
  simp only[go_sem,simprocAttr,eA]
  refine bM.row 1048576 (by kernel_rfl) (.inr (.inl rfl)) (.sl _ _ _) (by simpa using hl) (λh=>by cases h) λ_=>?_
  simp only[go_sem,simprocAttr]
  refine bO.ret ?_
  simp only[go_sem,simprocAttr]
  exact⟨_,.refl _,by simp[bQ],by simp,rfl⟩
end Go.Proofs.Tryz
end
section
namespace Go.Proofs.Tryz
open Go Go.Av
set_option maxRecDepth 10000
variable {W0 :World}
def ints (ys:List Int):Option cX:=some (.cells 135 (ys.map (.int .i64)))
def UN (σ st:ab)(id:Nat)(xs:List Int):Prop:=∃ ys:List Int,ys.Perm xs∧st=σ.set id (ints ys)
end Go.Proofs.Tryz
end
section
namespace Go.Proofs.Tryz
open Go Go.Av
set_option maxRecDepth 10000
variable {W0 :World}
def xN (σ st:ab)(id:Nat)(xs:List Int):Prop:=(∃ys:List Int,ys.Perm xs∧st[id]?=some (ints ys))∧Fr [id] σ st
theorem xN.of {σ st:ab}{id:Nat}{xs:List Int}(hid:id<σ.length)(h:UN σ st id xs):xN σ st id xs:=by
 obtain⟨ys,hp,rfl⟩:=h
 exact⟨⟨ys,hp,List.getElem?_set_self hid⟩,⟨by simp,λj hj hn=>List.getElem?_set_ne λe=>hn (by simp[e])⟩⟩
theorem xN.step {σ τ st:ab}{id:Nat}{xs ys:List Int}(h1:Fr [id] σ τ)(hy:ys.Perm xs)(h2:xN τ st id ys):xN σ st id xs:=by
 obtain⟨⟨zs,hz,hs⟩,hf⟩:=h2
 exact⟨⟨zs,hz.trans hy,hs⟩,⟨Nat.le_trans h1.len hf.len,λj hj hn=>by rw[hf.old j (Nat.lt_of_lt_of_le hj h1.len) hn,h1.old j hj hn]⟩⟩
end Go.Proofs.Tryz
end
section
namespace Go.Proofs.Tryz
open Go Go.Av
set_option maxRecDepth 10000
variable {W0 :World}
theorem Oc (σ:ab)(n:Nat)(hn:n≤200):aY prog W0 71 [.int .i64 n] σ λr σ'=>r= .ptr 191 σ.length 0 []∧σ'=σ++[sN n .az]:=by
 refine cK [2] [] func71 rfl rfl ntmps71 rfl rfl λhs=>?_
 have e1:rG (n:Int) 200=n:=by unfold rG;split<;>omega
 have e2:yC 0 (n:Int)=n:=by unfold yC;split<;>omega
 simp only[go_sem,simprocAttr,e1,e2]
 refine bO.ret ?_
 simp only[go_sem,simprocAttr]
 exact⟨_,.refl _,by simp,rfl,rfl⟩
end Go.Proofs.Tryz
end
section
namespace Go.Av
def uf (ord:List Int)(l:Int):Int:=if l∈ord then 1 else if-l∈ord then-1 else 0
structure dJ (n:Nat)(ord:List Int):Prop where
 nd:(ord.map Int.natAbs).Nodup
 wf: ∀l∈ord,l≠0∧l.natAbs≤n
theorem dJ.cons {n:Nat}{ord:List Int}(h:dJ n ord){l:Int}(hl:l∈ord): -l∉ord:=λhn=>by
 have h0:=(h.wf l hl).1
 obtain⟨i,hi,he⟩:=List.getElem_of_mem hl
 obtain⟨j,hj,he'⟩:=List.getElem_of_mem hn
 have:i=j:=(List.getElem_inj (i:=i) (j:=j) (h₀:=by simpa using hi) (h₁:=by simpa using hj) h.nd).1 (by simp[he,he'])
 subst this
 rw[he]at he'
 omega
theorem tU (ord:List Int)(l:Int):(uf ord l=1∧l∈ord)∨(uf ord l= -1∧l∉ord∧ -l∈ord)∨(uf ord l=0∧l∉ord∧ -l∉ord):=by
 unfold uf
 by_cases h1:l∈ord
 ·left;simp[h1]
 ·by_cases h2: -l∈ord
  ·right;left;simp[h1,h2]
  ·right;right;simp[h1,h2]
theorem dJ.nil (n:Nat):dJ n []:=⟨by simp,by simp⟩
theorem dJ.app {n:Nat}{ord:List Int}(h:dJ n ord){l:Int}(h0:l≠0)(hn:l.natAbs≤n)(hv:uf ord l=0):dJ n (ord++[l]):=by
 refine⟨?_,λm hm=>?_⟩
 ·rw[List.map_append,List.nodup_append]
  refine⟨h.nd,by simp,λa ha b hb=>?_⟩
  obtain⟨m,hm,rfl⟩:=List.mem_map.1 ha
  simp at hb
  subst hb
  intro e
  rcases tU ord l with⟨h1,h2⟩|⟨h1,h2⟩|⟨h1,h2,h3⟩
  ·omega
  ·omega
  ·rcases Int.natAbs_eq_natAbs_iff.1 e with e|e
   ·exact h2 (e▸hm)
   ·exact h3 (e▸hm)
 ·rcases List.mem_append.1 hm with h1|h1
  ·exact h.wf m h1
  ·rw[List.mem_singleton.1 h1];exact⟨h0,hn⟩
theorem dJ.take {n:Nat}{ord:List Int}(h:dJ n ord)(k:Nat):dJ n (ord.take k):=⟨by rw[List.map_take];exact List.Nodup.sublist (List.take_sublist _ _) h.nd,λl hl=>h.wf l (List.mem_of_mem_take hl)⟩
theorem dJ.sub {n:Nat}{o p:List Int}(h:dJ n p)(hs:o.Sublist p):dJ n o:=⟨List.Nodup.sublist (hs.map _) h.nd,λl hl=>h.wf l (hs.subset hl)⟩
theorem yA : ∀(n:Nat) (l:List Nat),l.Nodup→(∀x∈l,x<n)→l.length≤n
 |0,l,_,h=>by
  cases l with
  |nil=>simp
  |cons x l=>exact absurd (h x (by simp)) (by omega)
 |n+1,l,hd,h=>by
  have:=yA n (l.erase n) (hd.erase n) λx hx=>by
   have h1:=(List.Nodup.mem_erase_iff hd).1 hx
   have:=h x h1.2
   have:=h1.1
   omega
  rw[List.length_erase]at this
  split at this<;>omega
theorem dJ.len {n:Nat}{ord:List Int}(h:dJ n ord):ord.length≤n:=by
 have:=yA (n+1) (0::ord.map Int.natAbs) (List.nodup_cons.2 ⟨λh0=>by
  obtain⟨l,hl,e⟩:=List.mem_map.1 h0
  exact(h.wf l hl).1 (Int.natAbs_eq_zero.1 e),h.nd⟩) λx hx=>by
   rcases List.mem_cons.1 hx with rfl|hx
   ·omega
   ·obtain⟨l,hl,rfl⟩:=List.mem_map.1 hx
    have:=(h.wf l hl).2
    omega
 simp at this
 exact this
def Agr (M:Nat→Bool)(ord:List Int):Prop:=∀ l∈ord,ng M l=true
theorem Agr.neg {M:Nat→Bool}{n:Nat}{ord:List Int}(h:Agr M ord)(hg:dJ n ord){l:Int}(hv:uf ord l= -1):ng M l=false:=by
 rcases tU ord l with⟨h1,_⟩|⟨_,_,h2⟩|⟨h1,_⟩
 ·omega
 ·have h0:=(hg.wf _ h2).1
  have:=h _ h2
  rw[ub (by omega)]at this
  simpa using this
 ·omega
def F4 (ord c:List Int):Bool:=!c.any λl=>decide (0≤uf ord l)
end Go.Av
end
section
namespace Go.Proofs.Tryz
open Go Go.Av
set_option maxRecDepth 10000
variable {W0 :World}
variable {σ :ab}{tid vid n:Nat}{cv ov lv:AV}{cls:List (List Int)}{ord:List Int}{lev:List Nat}
theorem dG.at {st:ab}{v:AV}{e:TypeId}{xs:List AV}{i:Nat}{x:AV}(h:dG st v e xs)(hx:xs[i]?=some x): ∃id off m zs,v= .row e id off m∧st[id]?=some (some (.cells e zs))∧m=xs.length∧zs[off+i]?=some x:=by
 rcases h with⟨_,rfl⟩|⟨id,off,m,zs,rfl,h1,h2,h3⟩
 ·simp at hx
 ·refine⟨id,off,m,zs,rfl,h1,(dG.AK (σ:=st) (e:=e) (id:=id) h2 h3).symm,?_⟩
  rw[h3,List.getElem?_take,List.getElem?_drop]at hx
  split at hx
  ·exact hx
  ·cases hx
end Go.Proofs.Tryz
end
section
namespace Go.Proofs.Tryz
open Go Go.Av
set_option maxRecDepth 10000
variable {W0 :World}
variable {σ :ab}{tid vid n:Nat}{cv ov lv:AV}{cls:List (List Int)}{ord:List Int}{lev:List Nat}
structure Own (τ:ab)(tid:Nat)(cv:AV)(vid:Nat)(ov lv:AV):Prop where
 tid:τ.length≤tid
 vid:τ.length≤vid
 cv: ∀j∈bc cv,τ.length≤j
 ov: ∀j∈bc ov,τ.length≤j
 lv: ∀j∈bc lv,τ.length≤j
end Go.Proofs.Tryz
end
section
namespace Go.Av
def Dn (ord:List Int)(stk:List (Nat×Int))(M:Nat→Bool):Prop:=∃ p∈stk,0<p.2∧Agr M (ord.take p.1)∧ng M p.2=true
def sO (n:Nat)(cls:List (List Int))(ord:List Int):Nat→List (Nat×Int)→Prop
 |lo,[]=>lo≤ord.length
 |lo,p::r=>lo≤p.1∧p.1<ord.length∧p.2≠0∧p.2.natAbs≤n∧uf (ord.take p.1) p.2=0∧cls.any (F4 (ord.take p.1))=false∧sO n cls ord (p.1+1) r
theorem sO.app {n:Nat}{cls:List (List Int)}{ord:List Int}{k:Nat}{d:Int}{o2:List Int}: ∀{lo:Nat} {stk:List (Nat×Int)},sO n cls ord lo stk→(∀i,i≤ord.length→o2.take i=ord.take i)→k=ord.length→k<o2.length→d≠0→d.natAbs≤n→uf ord d=0→cls.any (F4 ord)=false→sO n cls o2 lo (stk++[(k,d)])
 |lo,[],h,ho,hk,hk2,h0,hn,hv,hc=>by
  have e:o2.take k=ord:=by rw[ho k (by omega),hk,List.take_length]
  refine⟨by rw[hk];exact h,hk2,h0,hn,by show uf (o2.take k) d=0;rw[e];exact hv,by show cls.any (F4 (o2.take k))=false;rw[e];exact hc,?_⟩
  show k+1≤o2.length
  omega
 |lo,p::r,⟨h1,h2,h3,h4,h5,h6,h7⟩,ho,hk,hk2,h0,hn,hv,hc=>⟨h1,by omega,h3,h4,by rw[ho _ (by omega)];exact h5,by rw[ho _ (by omega)];exact h6,h7.app ho hk hk2 h0 hn hv hc⟩
theorem sO.le {n:Nat}{cls:List (List Int)}{ord:List Int}: ∀{lo:Nat} {stk:List (Nat×Int)},sO n cls ord lo stk→lo+stk.length≤ord.length
 |lo,[],h=>by simp only[sO]at h;simpa using h
 |lo,p::r,⟨h1,_,_,_,_,_,h7⟩=>by have:=h7.le;simp;omega
theorem Dn.take {ord:List Int}{stk:List (Nat×Int)}{M:Nat→Bool}{k:Nat}(hk: ∀p∈stk,p.1≤k)(h:Dn ord stk M):Dn (ord.take k) stk M:=by
 obtain⟨p,h1,h2,h3,h4⟩:=h
 exact⟨p,h1,h2,by rw[List.take_take,Nat.min_eq_left (hk p h1)];exact h3,h4⟩
theorem Dn.more {ord o2:List Int}{stk:List (Nat×Int)}{M:Nat→Bool}(ho: ∀p∈stk,o2.take p.1=ord.take p.1)(h:Dn ord stk M)(q:List (Nat×Int)):Dn o2 (stk++q) M:=by
 obtain⟨p,h1,h2,h3,h4⟩:=h
 exact⟨p,by simp[h1],h2,by rw[ho p h1];exact h3,h4⟩
end Go.Av
end
section
namespace Go.Proofs.Tryz
open Go Go.Av
set_option maxRecDepth 10000
variable {W0 :World}
variable {τ σ:ab}{xid tid vid n:Nat}{cv ov lv dv:AV}{z:Int}{cls:List (List Int)}{ord dec asm:List Int}{lev lev0:List Nat}{stk:List (Nat×Int)}{base:Nat}
structure yX (n:Nat)(cls:List (List Int)):Prop where
 small:n≤200
 len:cls.length≤5000
 wf: ∀c∈cls,c≠[]∧c.length≤1048576∧ ∀l∈c,l≠0∧l.natAbs≤n
theorem J3 {n:Nat}{l:Int}:wfL n l=true↔l≠0∧l.natAbs≤n:=by simp[wfL]
end Go.Proofs.Tryz
end
section
namespace Go.Av
def dS (i:Nat):Int:=((i+1:Nat):Int)
def eD (c:Clause):Nat→List Pkg→List Int
 |_,[]=>[]
 |i,q::r=>(if c.any (cS q)=true then [dS i]else [])++eD c (i+1) r
def rH (all:List Pkg)(i:Nat)(c:Clause):List Int:=-dS i::eD c 0 all
def rN (p:Pkg)(i:Nat):Nat→List Pkg→List (List Int)
 |_,[]=>[]
 |k,q::r=>(if (p.name==q.name||dQ p q)=true then [[-dS i,-dS k]]else [])++rN p i (k+1) r
def AI (all:List Pkg)(i:Nat)(p:Pkg):List (List Int):=(p.pre++p.dep).map (rH all i)++rN p i 0 (all.take i)
def kI (all:List Pkg):Nat→List Pkg→List (List Int)
 |_,[]=>[]
 |i,p::r=>AI all i p++kI all (i+1) r
theorem wc {c:Clause}: ∀{i:Nat} {l:List Pkg} {x:Int},x∈eD c i l→ ∃k q,l[k]?=some q∧x=dS (i+k)
 |i,[],x,h=>by simp[eD]at h
 |i,q::r,x,h=>by
  rw[eD,List.mem_append]at h
  rcases h with h|h
  ·split at h
   ·simp at h;exact⟨0,q,rfl,by simpa using h⟩
   ·simp at h
  ·obtain⟨k,q',h1,h2⟩:=wc h
   exact⟨k+1,q',by simpa using h1,by rw[h2];congr 1;omega⟩
theorem lB {c:Clause}: ∀(i:Nat) (l:List Pkg),(eD c i l).Nodup∧ ∀x∈eD c i l,dS i≤x
 |i,[]=>by simp[eD]
 |i,q::r=>by
  obtain⟨h1,h2⟩:=lB (c:=c) (i+1) r
  rw[eD]
  refine⟨List.nodup_append.2 ⟨by split<;>simp,h1,λa ha b hb=>?_⟩,λx hx=>?_⟩
  ·split at ha
   ·simp at ha
    have:=h2 b hb
    subst ha
    unfold dS at *
    omega
   ·simp at ha
  ·rcases List.mem_append.1 hx with h|h
   ·split at h
    ·simp at h;omega
    ·simp at h
   ·have:=h2 x h
    unfold dS at *
    omega
theorem vw {c:Clause}: ∀(i:Nat) (l:List Pkg),(eD c i l).length≤l.length
 |i,[]=>by simp[eD]
 |i,q::r=>by
  have:=vw (c:=c) (i+1) r
  rw[eD,List.length_append]
  split<;>simp<;>omega
theorem uP {p:Pkg}{i:Nat}: ∀(l:List Pkg) (j k:Nat) (q:Pkg),l[k]?=some q→rN p i j (l.take (k+1))=rN p i j (l.take k)++(if (p.name==q.name||dQ p q)=true then [[-dS i,-dS (j+k)]]else [])
 |[],j,k,q,h=>by simp at h
 |p'::r,j,0,q,h=>by
  simp at h;subst h
  simp[rN]
 |p'::r,j,k+1,q,h=>by
  rw[List.take_succ_cons,List.take_succ_cons,rN,rN,uP r (j+1) k q (by simpa using h),List.append_assoc]
  have:j+1+k=j+(k+1):=by omega
  rw[this]
theorem uK (all:List Pkg): ∀(l:List Pkg) (j k:Nat) (p:Pkg),l[k]?=some p→kI all j (l.take (k+1))=kI all j (l.take k)++AI all (j+k) p
 |[],j,k,p,h=>by simp at h
 |q::r,j,0,p,h=>by
  simp at h;subst h
  simp[kI]
 |q::r,j,k+1,p,h=>by
  rw[List.take_succ_cons,List.take_succ_cons,kI,kI,uK all r (j+1) k p (by simpa using h),List.append_assoc]
  have:j+1+k=j+(k+1):=by omega
  rw[this]
theorem fX (M:Nat→Bool)(a b:List (List Int)):dh M (a++b)=(dh M a&&dh M b):=by simp[dh]
theorem dH {all:List Pkg}(h:bg all=0):all.length≤24:=by
 unfold bg at h
 split at h
 ·omega
 ·omega
theorem gg : ∀{l:List Int},orL l=0→ ∀x∈l,x=0
 |[],_,x,hx=>by simp at hx
 |y::r,h,x,hx=>by
  rw[orL]at h
  split at h
  ·rename_i hy;exact absurd h hy
  ·rename_i hy
   rcases List.mem_cons.1 hx with rfl|hx
   ·exact Classical.not_not.1 hy
   ·exact gg h x hx
theorem cW {all:List Pkg}(h:bg all=0){p:Pkg}(hp:p∈all):aL p=0:=by
 unfold bg at h
 split at h
 ·omega
 ·split at h
  ·rename_i h1;exact absurd h h1
  ·rename_i h1
   exact gg (Classical.not_not.1 h1) _ (List.mem_map.2 ⟨p,hp,rfl⟩)
theorem vD {l:List Clause}(h:cg l=0):l.length≤12:=by
 unfold cg at h
 split at h
 ·omega
 ·rename_i h1;omega
theorem tp {p:Pkg}(h:aL p=0):p.pre.length≤12∧p.dep.length≤12:=by
 unfold aL at h
 split at h
 ·omega
 ·have:=gg h
  exact⟨vD (this _ (by simp)),vD (this _ (by simp))⟩
theorem gT (i:Nat):0<dS i:=by unfold dS;omega
theorem lK (i:Nat):(dS i).natAbs=i+1:=by unfold dS;omega
theorem Jk {all:List Pkg}{i:Nat}(hi:i<all.length)(c:Clause):wfC all.length (rH all i c)=true∧(rH all i c).Nodup∧(rH all i c).length≤all.length+1:=by
 refine⟨List.all_eq_true.2 λl hl=>?_,?_,?_⟩
 ·have:l≠0∧l.natAbs≤all.length:=by
   rcases List.mem_cons.1 hl with rfl|hl
   ·have:=gT i;have:=lK i
    exact⟨by omega,by omega⟩
   ·obtain⟨k,q,h1,rfl⟩:=wc hl
    have h2:=(List.getElem?_eq_some_iff.1 h1).1
    have:=gT (0+k);have:=lK (0+k)
    exact⟨by omega,by omega⟩
  simp[wfL,this]
 ·refine List.nodup_cons.2 ⟨λh=>?_,(lB _ _).1⟩
  have:=(lB (c:=c) 0 all).2 _ h
  have:=gT i;have:=gT 0
  omega
 ·have:=vw (c:=c) 0 all
  simp[rH];omega
theorem Kn {n i k:Nat}(hi:i<n)(hk:k<i):wfC n [-dS i,-dS k]=true∧[-dS i,-dS k].Nodup:=by
 have:=gT i;have:=lK i;have:=gT k;have:=lK k
 refine⟨by simp[wfC,wfL];omega,by simp;unfold dS;omega⟩
end Go.Av
end
section
namespace Go.Av
structure ez (σ st:ab)(v:AV)(e:TypeId)(xs:List AV):Prop where
 row:(v= .az∧xs=[])∨ ∃id,v= .row e id 0 xs.length∧st[id]?=some (some (.cells e xs))∧σ.length≤id
 ext:Ext σ st
theorem ez.nil {σ st:ab}(h:Ext σ st)(e:TypeId):ez σ st .az e []:=⟨.inl ⟨rfl,rfl⟩,h⟩
theorem ez.st {σ st:ab}{v:AV}{e:TypeId}{xs:List AV}(h:ez σ st v e xs):di st v e xs:=by
 rcases h.row with h|⟨id,rfl,h1,_⟩
 ·exact .inl h
 ·exact .inr (.inr ⟨id,0,_,xs,rfl,h1,by simp,by simp⟩)
theorem ez.more {σ st:ab}{v:AV}{e:TypeId}{xs:List AV}(h:ez σ st v e xs)(l:ab):ez σ (st++l) v e xs:=by
 refine⟨?_,h.ext.app l⟩
 rcases h.row with h1|⟨id,h1,h2,h3⟩
 ·exact .inl h1
 ·exact .inr ⟨id,h1,by rw[List.getElem?_append_left ((List.getElem?_eq_some_iff.1 h2).1)];exact h2,h3⟩
theorem bM.out {P:Program}{A:aa}{σ:ab}{t u e:TypeId}{x y:AV}{xs ys:List AV}{dst:Option Nat}{k:aa→Prop}(N:Nat)(ho:xj P t u e N=true)(h:ez σ A.st x e xs)(hy:fh A.st y e ys)(hN:xs.length+ys.length≤N)
  (hk: ∀v st',ez σ st' v e (xs++ys)→k ((A.put dst v).an st')):bM P [t,u] [x,y] dst A k .mk:=by
 have hkl:(bQ x A.st).length=A.st.length:=by unfold bQ;split<;>simp
 refine bM.row N ho h.st hy hN (λhe=>hk _ _ (by rw[he,List.append_nil];exact h)) λhe=>hk _ _ ⟨.inr ⟨A.st.length,by simp,?_,h.ext.le⟩,?_⟩
 ·rw[←hkl,List.getElem?_append_right (Nat.le_refl _),Nat.sub_self]
  rfl
 ·refine Ext.app ?_ _
  rcases h.row with⟨rfl,_⟩|⟨id,rfl,_,h3⟩
  ·exact h.ext
  ·exact h.ext.set h3 _
theorem ez.JS {A:aa}{σ:ab}{v:AV}{e:TypeId}{xs:List AV}{d:Nat}{x:Exit}{R:aa→Prop}(h:ez σ A.st v e xs)(hd:A.env d=v)
  (h0:v= .az→xs=[]→bO R x A) (h1: ∀id,bO R x ((A.upd d (.sl e xs)).an (A.st.set id none))∨ ¬(σ.length≤id∧A.env d= .row e id 0 xs.length)):bO R x A:=by
 rcases h.row with⟨h2,h3⟩|⟨id,h2,h3,h4⟩
 ·exact h0 h2 h3
 ·rcases h1 id with h5|h5
  ·exact bO.frz d (by rw[hd,h2]) h3 (by simp) (by simpa using h5)
  ·exact absurd ⟨h4,by rw[hd,h2]⟩ h5
end Go.Av
end
section
namespace Go.Proofs.Tryz
open Go Go.Av
set_option maxRecDepth 10000
variable {W0 :World}
structure Rep where
 name:List UInt8
 ver:List UInt8
 can:Bool
 XC:List Nat
 never:List Nat
def j2 (l:List Nat):AV:=.sl 3 (l.map λk=>.int .i64 (k:Nat))
end Go.Proofs.Tryz
end
section
namespace Go.Av
open Go
def eqK (P:Program)(ty:TypeId):Nat:=match P.underlying ty with|some (.int _)=>1|some .string=>2|some .bool=>3|_=>0
def rQ (P:Program)(t:TypeId):Option (List Nat):=match P.underlying t with
 | some (.struct fl) => if fl.toList.all (fun f => f.name != "_") && (!P.stoodInHeld t && !P.eqGuardType P.depth t) then (bp P t).map fun ts => ts.map (eqK P) else none
 |_=>none
def Be :Nat→AV→AV→Option Bool
 |1,.int k a,.int k' b=>if k=k' then some (a==b)else none
 |2,.str a,.str b=>some (a==b)
 |3,.bool a,.bool b=>some (a==b)
 |_,_,_=>none
def ug :List Nat→List AV→List AV→Option Bool
 |[],[],[]=>some true
 |ty::ts,x::xs,y::ys=>(Be ty x y).bind λb=>(ug ts xs ys).map λc=>b&&c
 |_,_,_=>none
theorem UB (P:Program)(ty:TypeId)(x y:AV):eq1 P ty x y=Be (eqK P ty) x y:=by
 unfold eq1 eqK
 cases h:P.underlying ty with
 |none=>cases x<;>cases y<;>rfl
 |some u=>cases u<;>cases x<;>cases y<;>rfl
theorem BW (P:Program): ∀(ts:List TypeId) (xs ys:List AV),p6 P ts xs ys=ug (ts.map (eqK P)) xs ys
 |[],[],[]=>rfl
 |[],[],_::_=>rfl
 |[],_::_,[]=>rfl
 |[],_::_,_::_=>rfl
 |_::_,[],[]=>rfl
 |_::_,[],_::_=>rfl
 |_::_,_::_,[]=>rfl
 |ty::ts,x::xs,y::ys=>by
  simp only[p6,List.map_cons,ug,UB,BW P ts xs ys]
theorem rW {P:Program}{t:TypeId}{ks:List Nat}(h:rQ P t=some ks)(fs gs:List AV):iF P t fs gs=ug ks fs gs:=by
 unfold rQ at h
 unfold iF
 split at h
 ·rename_i fl hu
  simp only[hu]
  split at h
  ·rename_i hc
   rw[if_pos hc]
   cases hf:bp P t with
   |none=>rw[hf]at h;cases h
   |some ts=>
    rw[hf]at h
    simp only[Option.map_some,Option.some.injEq]at h
    simp only[Option.bind_some,BW,h]
  ·cases h
 ·cases h
end Go.Av
namespace Go.Proofs.Tryz
open Go Go.Av
set_option maxRecDepth 10000
variable {W0 :World}
theorem iL {α:Type}{a b:List α}{i:Nat}{x:α}(h:a.take i=b.take i)(hx:a[i]?=some x)(hy:b[i]?=some x):a.take (i+1)=b.take (i+1):=by
 rw[aj hx,aj hy,h]
theorem mz {α:Type}{a b:List α}{i:Nat}{x y:α}(hx:a[i]?=some x)(hy:b[i]?=some y)(h:x≠y):a≠b:=by
 rintro rfl
 rw[hx]at hy
 exact h (Option.some.inj hy)
theorem ta :rQ prog 81=some [2,1,2]:=by kernel_rfl
theorem ud :rQ prog 147=some [2,2]:=by kernel_rfl
@[go_sem] theorem Vt (a b:Atom):ca prog .neq 81 (aN a) (aN b)= .bool (!decide (a=b)):=by
 obtain⟨a1,a2,a3⟩:=a
 obtain⟨b1,b2,b3⟩:=b
 simp only[aN,vE,rW ta,ug,Be,if_true,Option.map_some,Option.bind_some,Option.getD_some,Atom.mk.injEq,Bool.and_true]
 congr 1
 rw[Bool.eq_iff_iff]
 simp
@[go_sem] theorem Tp (a b:Atom):cj prog .neq 81 (aN a) (aN b)=True:=by
 simp[aN,uZ,rW ta,ug,Be]
@[go_sem] theorem Va (a b:ia):ca prog .neq 147 (cV a) (cV b)= .bool (!decide (a=b)):=by
 obtain⟨a1,a2⟩:=a
 obtain⟨b1,b2⟩:=b
 simp only[cV,vE,rW ud,ug,Be,if_true,Option.map_some,Option.bind_some,Option.getD_some,ia.mk.injEq,Bool.and_true]
 congr 1
 rw[Bool.eq_iff_iff]
 simp
@[go_sem] theorem S5 (a b:ia):cj prog .neq 147 (cV a) (cV b)=True:=by
 simp[cV,uZ,rW ud,ug,Be]
def atL (all:List Pkg)(t:List Nat):List Pkg:=t.filterMap λi=>all[i]?
theorem Hz {all:List Pkg}{t:List Nat}{i x:Nat}{p:Pkg}(hx:t[i]?=some x)(hp:all[x]?=some p):atL all (t.take (i+1))=atL all (t.take i)++[p]:=by
 simp[atL,aj hx,List.filterMap_append,hp]
theorem Kh (all:List Pkg)(t:List Nat):(atL all t).length≤t.length:=List.length_filterMap_le _ _
theorem N6 (all:List Pkg)(t:List Nat)(ht: ∀i∈t,i<all.length)(hn:t.length≤1048576):ag prog W0 16 [aT all,j2 t] (aT (atL all t)):=by
 refine al [4] [] func16 rfl rfl ntmps16 rfl rfl (iX _) λhs σ=>?_
 simp only[go_sem,simprocAttr,aT,j2]
 refine ae.at [0,8,9] (.of (by kernel_rfl)) (λA=>∃ v,A.env 5=v∧aK σ A.st v 54 ((atL all t).map au)) ?_ λB ⟨v,h5,hb⟩=>?_
 ·refine ae.upto [0,8,9] (.of (by kernel_rfl)) t.length (λi A=>∃ v,A.env 5=v∧A.env 10= .int .i64 i∧aK σ A.st v 54 ((atL all (t.take i)).map au)) 0 (Nat.zero_le _) ?_ λi B hi ⟨v,h5,h10,hb⟩=>?_
  ·simp only[go_sem,simprocAttr]
   exact⟨_,rfl,aK.nil (.refl _) _⟩
  simp only[go_sem,simprocAttr,h5,h10,hb.ok,hb.un,List.length_map]
  refine⟨λhc=>⟨hc,?_⟩,λhc=>?_⟩
  ·obtain⟨x,hx⟩:=get_some hc
   obtain⟨p,hp⟩:=get_some (ht x (List.mem_of_getElem? hx))
   simp only[go_sem,simprocAttr,h5,h10,hb.ok,hb.un,List.length_map,av hx,av hp]
   refine⟨ht x (List.mem_of_getElem? hx),?_⟩
   have hlen:=Kh all (t.take i)
   rw[List.length_take]at hlen
   refine bM.own 1048576 (by kernel_rfl) hb.bld (.lit _ _ _) (by simp;omega) λv' σ' ha'=>?_
   have hb':=hb.app ha'
   simp only[go_sem,simprocAttr,h5,h10,hb.ok,hb.un,hb'.ok,hb'.un]
   refine⟨hc,_,rfl,ah hc (by rw[aq];omega),?_⟩
   rw[Hz hx hp,List.map_append]
   exact hb'
  ·rw[List.take_of_length_le hc]at hb
   exact⟨_,rfl,hb⟩
 simp only[go_sem,simprocAttr,h5,hb.ok,hb.un]
 exact⟨hb.bZ,hb.ext⟩
end Go.Proofs.Tryz
end
section
namespace Go.Proofs.Tryz
open Go Go.Av
set_option maxRecDepth 10000
variable {W0 :World}
def wg (p q:Pkg):Bool:=Op.bytesLess q.name p.name||(q.name==p.name&&decide (0≤bo q.ver p.ver))
def pX (p:Pkg)(out:List Pkg):List Pkg:=out.takeWhile (wg p)++p::out.dropWhile (wg p)
def cw (l:List Pkg):List Pkg:=l.foldl (λo p=>pX p o) []
theorem BD {l:List Pkg}{i:Nat}{p:Pkg}(h:l[i]?=some p):cw (l.take (i+1))=pX p (cw (l.take i)):=by
 rw[cw,aj h,List.foldl_append];rfl
theorem qc (p:Pkg)(o:List Pkg):(pX p o).Perm (p::o):=by
 unfold pX
 refine List.perm_middle.trans (.cons _ ?_)
 rw[List.takeWhile_append_dropWhile]
theorem eI (l:List Pkg):(cw l).Perm l:=by
 have key: ∀(l o:List Pkg),(l.foldl (λo p=>pX p o) o).Perm (o++l):=λl=>by
  induction l with
  |nil=>intro o;simp
  |cons p l ih=>
   intro o
   refine(ih _).trans ?_
   refine((qc p o).append_right l).trans ?_
   exact List.perm_middle.symm
 have h:=key l []
 rw[List.nil_append]at h
 exact h
theorem fF {α:Type}{f:α→Bool}: ∀{l:List α} {a:Nat},(∀k x,k<a→l[k]?=some x→f x=true)→(∀x,l[a]?=some x→f x=false)→l.takeWhile f=l.take a∧l.dropWhile f=l.drop a
 |[],a,_,_=>by simp
 |x::l,0,_,h=>by
  have:=h x rfl
  simp[this]
 |x::l,a+1,h,h2=>by
  have hx:=h 0 x (by omega) rfl
  obtain⟨e1,e2⟩:=fF (l:=l) (a:=a) (λk y hk hy=>h (k+1) y (by omega) (by simpa using hy)) (λy hy=>h2 y (by simpa using hy))
  simp[hx,e1,e2]
structure ez (σ st:ab)(v:AV)(e:TypeId)(xs:List AV):Prop where
 row:dG st v e xs
 ext:Ext σ st
 low: ∀j∈bc v,σ.length≤j
theorem ez.iE {σ st:ab}{v:AV}{e:TypeId}{xs:List AV}(h:ez σ st v e xs):en σ st v e xs:=⟨h.row.st,h.ext,λid hid=>h.low id (by cases v<;>simp[Mk]at hid;subst hid;simp[bc])⟩
theorem ez.app {σ st st':ab}{x v:AV}{e:TypeId}{xs zs:List AV}(h:ez σ st x e xs)(ha:Ur st x e zs v st'):ez σ st' v e zs:=⟨ha.row,ha.fr.Gp h.ext h.low,λj hj=>by
 rcases ha.bc j hj with h1|h1
 ·exact h.low j h1
 ·exact Nat.le_trans h.ext.le h1⟩
theorem ez.nil {σ st:ab}(h:Ext σ st)(e:TypeId):ez σ st .az e []:=⟨.inl ⟨rfl,rfl⟩,h,λj hj=>by simp[bc]at hj⟩
theorem ez.more {σ st:ab}{v:AV}{e:TypeId}{xs:List AV}(h:ez σ st v e xs)(l:ab):ez σ (st++l) v e xs:=⟨h.row.eC λj hj=>by rw[List.getElem?_append_left (h.row.lt j hj)],h.ext.app l,h.low⟩
theorem BY (l:List Pkg)(hl:l.length≤1024):ag prog W0 20 [aT l] (aT (cw l)):=by
 refine ki [2] [5,2000053,2000056,2000060,2000003] func20 rfl rfl ntmps20 rfl rfl (iX _) λhs σ=>?_
 have ht:elT prog 22=some 54:=by kernel_rfl
 simp only[go_sem,simprocAttr,aT]
 refine ae.at [7,8] (.of (by kernel_rfl)) (λA=>∃ v,A.env 3=v∧ez σ A.st v 54 ((cw l).map au)) ?_ λB ⟨v,h3,hb⟩=>?_
 ·refine ae.upto [7,8] (.of (by kernel_rfl)) l.length (λi A=>∃ v,A.env 3=v∧A.env 9= .int .i64 i∧ez σ A.st v 54 ((cw (l.take i)).map au)) 0 (Nat.zero_le _) ?_ λi B hi ⟨v,h3,h9,hb⟩=>?_
  ·simp only[go_sem,simprocAttr]
   exact⟨_,rfl,ez.nil (.refl _) _⟩
  have hok:=hb.iE.ok
  have hun:=hb.iE.un
  simp only[go_sem,simprocAttr,h3,h9,hok,hun,List.length_map]
  refine⟨λhc=>?_,λhc=>?_⟩
  ·obtain⟨p,hp⟩:=get_some hc
   have ho:(cw (l.take i)).length≤1024:=by rw[(eI _).length_eq,List.length_take];omega
   obtain⟨o,hoo⟩: ∃o,o=cw (l.take i):=⟨_,rfl⟩
   rw[←hoo]at hb ho
   have hb':=hb.more [none]
   have hlen:lX v= .int .i64 o.length:=by rw[hb.row.st.len,List.length_map]
   have hlc:=λt=>hb.row.st.fO prog t
   simp only[go_sem,simprocAttr,av hp,au,h3,h9,hok,hun]
   refine⟨hc,ae.at [3,5,7,8,9] (.of (by kernel_rfl)) (λA=>∃ a:Nat,A.env 6= .int .i64 a∧a≤o.length∧A.st=B.st++[none]∧(∀k x,k<a→o[k]?=some x→wg p x=true)∧(∀x,o[a]?=some x→wg p x=false)) ?_ λC ⟨a,h6,hle,hst,hI,hJ⟩=>?_⟩
   ·refine ae.upto [3,5,7,8,9] (.of (by kernel_rfl)) o.length (λa A=>A.env 6= .int .i64 a∧A.st=B.st++[none]∧(∀k x,k<a→o[k]?=some x→wg p x=true)) 0 (Nat.zero_le _) ?_ λa C hle ⟨h6,hst,hI⟩=>?_
    ·simp only[go_sem,simprocAttr]
    by_cases hlt:a<o.length
    ·obtain⟨q,hq⟩:=get_some hlt
     have hok2:=hok
     rcases hb'.row with⟨rfl,h0⟩|⟨id,off,m,zs,rfl,g1,g2,g3⟩
     ·have:=congrArg List.length h0
      simp at this
      rw[this]at hlt
      exact absurd hlt (by simp)
     have hm:m=o.length:=by rw[←dG.AK (σ:=B.st) (e:=54) (id:=id) g2 g3,List.length_map]
     have hz:zs[off+a]?=some (au q):=by
      have h1:((zs.drop off).take m)[a]?=some (au q):=by rw[←g3,List.getElem?_map,hq];rfl
      rw[List.getElem?_take_of_lt (by omega),List.getElem?_drop]at h1
      exact h1
     have hk0:Av.look C.st id (off+a) [0]=some (.str q.name):=by
      rw[hst]
      unfold Av.look
      rw[g1]
      simp only[hz,Option.bind_some]
      rfl
     have hk1:Av.look C.st id (off+a) [1]=some (.str q.ver):=by
      rw[hst]
      unfold Av.look
      rw[g1]
      simp only[hz,Option.bind_some]
      rfl
     have hlv:live C.st id:=by rw[hst,ay g1];trivial
     simp only[go_sem,simprocAttr,h3,h6,hok,hun,hm,hk0,hk1,hlv,hlt]
     refine⟨.of (by kernel_rfl),aA.fnG (λ_=>og q.ver p.ver) ?_⟩
     simp only[go_sem,simprocAttr,h3,h6,hok,hun,hm,hk0,hk1,hlv,hlt]
     refine⟨λhb1=>⟨ah hlt (by rw[aq];omega),hst,λk x hk hx=>?_⟩,λhb0=>⟨a,rfl,hle,hst,hI,λx hx=>?_⟩⟩
     ·rcases Nat.lt_succ_iff_lt_or_eq.1 hk with h|rfl
      ·exact hI k x h hx
      ·rw[hq]at hx;cases hx;exact hb1
     ·rw[hq]at hx;cases hx;exact hb0
    ·simp only[go_sem,simprocAttr,h3,h6,hok,hun,hlen,hlc,hlt]
     refine⟨.of (by kernel_rfl),aA.fnG (r:=.int .i64 0) (λh=>(Bool.false_ne_true h).elim) ?_⟩
     simp only[go_sem,simprocAttr,h3,h6,hok,hun,hlen,hlc,hlt]
     exact⟨a,rfl,hle,hst,hI,λx hx=>by rw[List.getElem?_eq_none (by omega)]at hx;cases hx⟩
   have hrow:dG C.st v 54 (o.map au):=by rw[hst];exact hb'.row
   have hle':a≤(o.map au).length:=by simpa using hle
   have hc1:=hrow.cut (Nat.zero_le a) hle'
   have hc2:=hrow.cut hle' (Nat.le_refl _)
   rw[List.length_map]at hc2
   have q1:=hc1.st.ok
   have q2:=hc1.st.un
   have q3:=hc2.st.ok
   have q4:=hc2.st.un
   simp only[go_sem,simprocAttr,h3,h6,h9,hok,hun,hrow.N7,hrow.lu ht,hle,List.length_map,q1,q2,q3,q4]
   refine⟨.of (by kernel_rfl),Nat.zero_le _,bM.wO (σ:=C.st) (by simp only[go_sem,simprocAttr]) 1048576 (by kernel_rfl) (.inl ⟨rfl,rfl⟩) hc1.st.read (by simp;omega) λv1 σ1 ha1=>?_⟩
   have q5:=ha1.row.st.ok
   have q6:=ha1.row.st.un
   simp only[go_sem,simprocAttr,h3,h6,h9,hok,hun,q1,q2,q3,q4,q5,q6]
   refine bM.wO (σ:=σ1) (by simp only[go_sem,simprocAttr]) 1048576 (by kernel_rfl) ha1.row (.lit _ _ _) (by simp;omega) λv2 σ2 ha2=>?_
   have q7:=ha2.row.st.ok
   have q8:=ha2.row.st.un
   have hk:dG σ2 (rM a o.length v) 54 _:=hc2.eC λj hj=>by
    rw[my]at hj
    have hj1:=hrow.lt j hj
    have hj2:j∉bc v1:=λh=>by
     rcases ha1.bc j h with h|h
     ·simp[bc]at h
     ·omega
    rw[ha2.fr.old j (Nat.lt_of_lt_of_le hj1 ha1.fr.len) hj2,ha1.fr.old j hj1 (by simp[bc])]
   simp only[go_sem,simprocAttr,h3,h6,h9,hok,hun,q1,q2,q3,q4,q5,q6,q7,q8]
   refine bM.wO (σ:=σ2) (by simp only[go_sem,simprocAttr]) 1048576 (by kernel_rfl) ha2.row hk.st.read (by simp;omega) λv3 σ3 ha3=>?_
   have q9:=ha3.row.st.ok
   have q10:=ha3.row.st.un
   simp only[go_sem,simprocAttr,h3,h6,h9,hok,hun,q1,q2,q3,q4,q5,q6,q7,q8,q9,q10]
   refine⟨hc,_,rfl,ah hc (by rw[aq];omega),?_⟩
   have hx:Ext σ C.st:=by rw[hst];exact hb'.ext
   have hfin:=(((ez.nil hx 54).app ha1).app ha2).app ha3
   rw[BD hp,←hoo,pX,(fF hI hJ).1,(fF hI hJ).2]
   have he:([]++(((o.map au).drop 0).take (a-0)))++[au p]++(((o.map au).drop a).take (o.length-a))=(o.take a++p::o.drop a).map au:=by
    rw[List.take_of_length_le (l:=(o.map au).drop a) (by simp)]
    simp[List.map_take,List.map_drop]
   rw[←he]
   exact hfin
  ·rw[List.take_of_length_le hc]at hb
   exact⟨_,rfl,hb⟩
 simp only[go_sem,simprocAttr,h3,hb.iE.ok,hb.iE.un]
 exact en.JS (hb.iE) (.inl rfl) (by simp only[go_sem,simprocAttr])
end Go.Proofs.Tryz
end
section
namespace Go.Proofs.Tryz
open Go Go.Av
set_option maxRecDepth 10000
variable {W0 :World}
def aD (all:List Pkg)(i:Nat):Nat:=match all[i]? with
 |some p=>i+((all.drop i).takeWhile λq=>q.name==p.name).length
 |none=>i
def fZ (all:List Pkg):Nat→Nat→List Nat→List (List Nat)
 |0,_,t=>if dz (atL all t)=true then [t]else []
 |f+1,i,t=>if i=all.length then(if dz (atL all t)=true then [t]else [])else((List.range' i (aD all i-i)).flatMap λk=>fZ all f (aD all i) (t++[k]))++fZ all f (aD all i) t
theorem rP (u v:AV):lj false u v=v:=by
 unfold lj lT
 split<;>simp[rm]
inductive sh :List AV→List AV→Prop
 |nil:sh [] []
 |cons {x y:AV} {xs ys:List AV}:Sub x y→sh xs ys→sh (x::xs) (y::ys)
theorem sh.append {a b c d:List AV}(h:sh a b)(k:sh c d):sh (a++c) (b++d):=by
 induction h with
 |nil=>exact k
 |cons h1 _ ih=>exact .cons h1 ih
theorem sh.get {a b:List AV}(h:sh a b):a.length=b.length∧ ∀(i:Nat) (x y:AV),a[i]?=some x→b[i]?=some y→Sub x y:=by
 induction h with
 |nil=>exact⟨rfl,λi x y hx _=>by simp at hx⟩
 |cons h1 _ ih=>
  refine⟨by simp[ih.1],λi x y hx hy=>?_⟩
  cases i with
  |zero=>simp at hx hy;subst hx hy;exact h1
  |succ i=>exact ih.2 i x y (by simpa using hx) (by simpa using hy)
theorem sh.sl {a b:List AV}(h:sh a b)(e:TypeId):Sub (.sl e a) (.sl e b):=.sls h.get.1 h.get.2
theorem BZ {α:Type}{f:α→Bool}: ∀{l:List α} {k:Nat},k≤(l.takeWhile f).length→(∀x,l[k]?=some x→f x=true→k<(l.takeWhile f).length)∧(∀x,l[k]?=some x→f x=false→k=(l.takeWhile f).length)∧(l.length≤k→k=(l.takeWhile f).length)
 |[],k,h=>by simp at h;subst h;simp
 |a::l,k,h=>by
  cases hf:f a with
  |false=>
   simp[List.takeWhile_cons,hf]at h ⊢
   subst h
   simp[hf]
  |true=>
   simp[List.takeWhile_cons,hf]at h ⊢
   cases k with
   |zero=>simp[hf]
   |succ k=>
    obtain⟨h1,h2,h3⟩:=BZ (f:=f) (l:=l) (k:=k) (by omega)
    simpa using ⟨h1,h2,h3⟩
theorem lD {all:List Pkg}{i k:Nat}{p:Pkg}(hp:all[i]?=some p)(hk:k≤aD all i-i):
  (∀q,all[i+k]?=some q→q.name=p.name→k<aD all i-i)∧(∀q,all[i+k]?=some q→ ¬q.name=p.name→i+k=aD all i)∧(all.length≤i+k→i+k=aD all i):=by
 have hr:aD all i=i+((all.drop i).takeWhile λq=>q.name==p.name).length:=by simp[aD,hp]
 rw[hr]at hk ⊢
 rw[Nat.add_sub_cancel_left]at hk ⊢
 obtain⟨h1,h2,h3⟩:=BZ hk
 refine⟨λq hq e=>h1 q (by rw[List.getElem?_drop];exact hq) (by simpa using e),λq hq e=>?_,λhl=>?_⟩
 ·rw[←h2 q (by rw[List.getElem?_drop];exact hq) (by simpa using e)]
 ·rw[←h3 (by rw[List.length_drop];omega)]
theorem cU {all:List Pkg}{i:Nat}{p:Pkg}(hp:all[i]?=some p):i<aD all i∧aD all i≤all.length:=by
 have h0:=(lD hp (Nat.zero_le _)).1 p hp rfl
 refine⟨by omega,?_⟩
 have hr:aD all i=i+((all.drop i).takeWhile λq=>q.name==p.name).length:=by simp[aD,hp]
 have h1:=(List.takeWhile_sublist (λq:Pkg=>q.name==p.name) (l:=all.drop i)).length_le
 have h2:=(List.getElem?_eq_some_iff.1 hp).1
 rw[List.length_drop]at h1
 omega
theorem room {d m:Nat}:(d+1)*2^m≤2^(d+m):=by
 rw[Nat.pow_add]
 exact Nat.mul_le_mul_right _ (Nat.lt_two_pow_self)
structure NOk (all:List Pkg)(N:Nat→Nat):Prop where
 one:1≤N all.length
 step: ∀i p,all[i]?=some p→(aD all i-i+1)*N (aD all i)≤N i
theorem NOk.two (all:List Pkg):NOk all λi=>2^(all.length-i):=⟨Nat.one_le_two_pow,λi p hp=>by
 obtain⟨b1,b2⟩:=cU hp
 have hroom:=room (d:=aD all i-i) (m:=all.length-aD all i)
 rwa [show aD all i-i+(all.length-aD all i)=all.length-i by omega]at hroom⟩
end Go.Proofs.Tryz
end
section
namespace Go.Proofs.Tryz
open Go Go.Av
set_option maxRecDepth 10000
variable {W0 :World}
def L7 (all:List Pkg)(j:Nat):Option (List UInt8):=(all[j]?).map λp=>p.name
end Go.Proofs.Tryz
end
section
namespace Go.Av
structure vP (all:List Pkg)(S:Nat→Bool):Prop where
 dep: ∀(i:Nat) (p:Pkg),all[i]?=some p→S i=true→ ∀c∈p.pre++p.dep,∃(k:Nat) (q:Pkg),all[k]?=some q∧c.any (cS q)=true∧S k=true
 con: ∀(i:Nat) (p:Pkg) (k:Nat) (q:Pkg),all[i]?=some p→all[k]?=some q→k<i→S i=true→S k=true→p.name≠q.name∧dQ p q=false
theorem tg (M:Nat→Bool)(i:Nat):ng M (dS i)=M (i+1):=by
 unfold ng
 rw[if_pos (gT i),lK]
theorem tR (M:Nat→Bool)(i:Nat):ng M (-dS i)= !M (i+1):=by
 rw[ub (by have:=gT i;omega),tg]
theorem sD {M:Nat→Bool}{c:Clause}: ∀(i:Nat) (l:List Pkg),ic M (eD c i l)=true↔ ∃(k:Nat) (q:Pkg),l[k]?=some q∧c.any (cS q)=true∧M (i+k+1)=true
 |i,[]=>by simp[eD,ic]
 |i,q::r=>by
  have ih:=sD (M:=M) (c:=c) (i+1) r
  have e:ic M (eD c i (q::r))=(ic M (if c.any (cS q)=true then [dS i]else [])||ic M (eD c (i+1) r)):=by rw[eD,ic,List.any_append];rfl
  rw[e,Bool.or_eq_true,ih]
  constructor
  ·rintro(h|⟨k,q',h1,h2,h3⟩)
   ·split at h
    ·rename_i hc
     refine⟨0,q,rfl,hc,?_⟩
     simpa[ic,tg]using h
    ·simp[ic]at h
   ·exact⟨k+1,q',by simpa using h1,h2,by rw[show i+(k+1)+1=i+1+k+1 by omega];exact h3⟩
  ·rintro⟨k,q',h1,h2,h3⟩
   cases k with
   |zero=>
    simp at h1;subst h1
    left
    rw[if_pos h2]
    simpa[ic,tg]using h3
   |succ k=>exact .inr ⟨k,q',by simpa using h1,h2,by rw[show i+1+k+1=i+(k+1)+1 by omega];exact h3⟩
theorem vg {M:Nat→Bool}{all:List Pkg}{i:Nat}{c:Clause}:ic M (rH all i c)=true↔(M (i+1)=true→ ∃(k:Nat) (q:Pkg),all[k]?=some q∧c.any (cS q)=true∧M (k+1)=true):=by
 have e:ic M (rH all i c)=(ng M (-dS i)||ic M (eD c 0 all)):=rfl
 rw[e,tR,Bool.or_eq_true,sD]
 simp only[Nat.zero_add]
 cases h:M (i+1)<;>simp
theorem qB {M:Nat→Bool}{p:Pkg}{i:Nat}: ∀(j:Nat) (l:List Pkg),dh M (rN p i j l)=true↔ ∀(k:Nat) (q:Pkg),l[k]?=some q→(p.name==q.name||dQ p q)=true→M (i+1)=true→M (j+k+1)=true→False
 |j,[]=>by simp[rN,dh]
 |j,q::r=>by
  have ih:=qB (M:=M) (p:=p) (i:=i) (j+1) r
  rw[rN,fX,Bool.and_eq_true,ih]
  constructor
  ·rintro⟨h1,h2⟩ k q' hk hc hi hj
   cases k with
   |zero=>
    simp at hk;subst hk
    rw[if_pos hc]at h1
    simp[dh,ic,tR]at h1
    rcases h1 with h|h
    ·rw[hi]at h;cases h
    ·rw[Nat.add_zero]at hj;rw[hj]at h;cases h
   |succ k=>exact h2 k q' (by simpa using hk) hc hi (by rw[show j+1+k+1=j+(k+1)+1 by omega];exact hj)
  ·intro h
   refine⟨?_,λk q' hk hc hi hj=>h (k+1) q' (by simpa using hk) hc hi (by rw[show j+(k+1)+1=j+1+k+1 by omega];exact hj)⟩
   split
   ·rename_i hc
    have:=h 0 q rfl hc
    simp only[dh,ic,List.all_cons,List.any_cons,List.any_nil,List.all_nil,tR,Nat.add_zero]at this ⊢
    cases h1:M (i+1)<;>cases h2:M (j+1)<;>simp_all
   ·rfl
theorem uO {M:Nat→Bool}{all:List Pkg}: ∀(j:Nat) (l:List Pkg),dh M (kI all j l)=true↔ ∀(k:Nat) (p:Pkg),l[k]?=some p→dh M (AI all (j+k) p)=true
 |j,[]=>by simp[kI,dh]
 |j,p::r=>by
  have ih:=uO (M:=M) (all:=all) (j+1) r
  rw[kI,fX,Bool.and_eq_true,ih]
  constructor
  ·rintro⟨h1,h2⟩ k q hk
   cases k with
   |zero=>simp at hk;subst hk;exact h1
   |succ k=>have:=h2 k q (by simpa using hk);rw[show j+(k+1)=j+1+k by omega];exact this
  ·intro h
   exact⟨h 0 p rfl,λk q hk=>by have:=h (k+1) q (by simpa using hk);rw[show j+1+k=j+(k+1) by omega];exact this⟩
theorem zG {M:Nat→Bool}{all:List Pkg}:dh M (kI all 0 all)=true↔vP all λi=>M (i+1):=by
 rw[uO]
 constructor
 ·intro h
  refine⟨λi p hp hS c hc=>?_,λi p k q hp hq hki hi hk=>?_⟩
  ·have:=h i p hp
   rw[AI,fX,Bool.and_eq_true,Nat.zero_add]at this
   have:=(List.all_eq_true.1 this.1) _ (List.mem_map.2 ⟨c,hc,rfl⟩)
   exact vg.1 this hS
  ·have:=h i p hp
   rw[AI,fX,Bool.and_eq_true,Nat.zero_add]at this
   have:=(qB _ _).1 this.2 k q (by rw[List.getElem?_take_of_lt hki];exact hq)
   have h2: ¬(p.name==q.name||dQ p q)=true:=λe=>this e hi (by simpa using hk)
   simp at h2
   exact⟨h2.1,h2.2⟩
 ·intro h k p hp
  rw[AI,fX,Bool.and_eq_true,Nat.zero_add]
  refine⟨List.all_eq_true.2 λx hx=>?_,(qB _ _).2 λj q hj hc hi hk=>?_⟩
  ·obtain⟨c,hc,rfl⟩:=List.mem_map.1 hx
   exact vg.2 λhS=>h.dep k p hp hS c hc
  ·have hjk:j<k:=by
    have:=(List.getElem?_eq_some_iff.1 hj).1
    rw[List.length_take]at this;omega
   rw[List.getElem?_take_of_lt hjk]at hj
   have:=h.con k p j q hp hj hjk hi (by simpa using hk)
   simp[this.1,this.2]at hc
end Go.Av
end
section
namespace Go.Av
def tL (d:List Clause):Bool:=decide (d.length≤14)&&d.all λc=>decide (c.length≤10)
def nH (i:Nat)(p:Pkg):Bool:=decide (i<26)&&decide (p.con.length+p.brk.length+p.dI.length≤40)&&[p.pre,p.dep,p.rcm].all tL
def ir :Nat→List Pkg→Bool
 |_,[]=>true
 |i,p::r=>nH i p&&ir (i+1) r
theorem sG : ∀{i:Nat} {l:List Pkg},ir i l=true→ ∀p∈l,p.con.length+p.brk.length+p.dI.length≤40
 |_,[],_,p,hp=>by simp at hp
 |i,q::r,h,p,hp=>by
  rw[ir,Bool.and_eq_true]at h
  rcases List.mem_cons.1 hp with rfl|hp
  ·have:=h.1
   simp[nH]at this
   exact this.1.2
  ·exact sG h.2 p hp
end Go.Av
end
section
namespace Go.Av
def yT {α β:Type}(f:α→β→Bool):List α→List β→Bool
 |[],[]=>true
 |x::xs,y::ys=>f x y&&yT f xs ys
 |_,_=>false
theorem oP {α β:Type}{f:α→β→Bool}: ∀{xs:List α} {ys:List β},yT f xs ys=true→xs.length=ys.length∧ ∀(i:Nat) (x:α) (y:β),xs[i]?=some x→ys[i]?=some y→f x y=true
 |[],[],_=>⟨rfl,by simp⟩
 |[],_::_,h=>by simp[yT]at h
 |_::_,[],h=>by simp[yT]at h
 |x::xs,y::ys,h=>by
  rw[yT,Bool.and_eq_true]at h
  obtain⟨h1,h2⟩:=oP h.2
  refine⟨by simp[h1],λi x' y' hx hy=>?_⟩
  cases i with
  |zero=>simp at hx hy;subst hx hy;exact h.1
  |succ i=>exact h2 i x' y' (by simpa using hx) (by simpa using hy)
def Dp :Nat→AV→AV→Bool
 |0,_,_=>false
 |n+1,x,y=>match x,y with
  | .int k a,.int k' b=>decide (k=k')&&a==b
  | .bool a,.bool b=>a==b
  | .str a,.str b=>a==b
  | .nil,.nil=>true
  | .az,.az=>true
  | .az,.sl _ []=>true
  | .sl e xs,.sl e' ys=>e==e'&&yT (Dp n) xs ys
  | .lit e xs,.sl e' ys=>e==e'&&yT (Dp n) xs ys
  | .agg t xs,.agg t' ys=>t==t'&&yT (Dp n) xs ys
  |_,_=>false
theorem ja : ∀{n:Nat} {x y:AV},Dp n x y=true→Sub x y
 |0,_,_,h=>by simp[Dp]at h
 |n+1,x,y,h=>by
  unfold Dp at h
  split at h
  ·simp only[Bool.and_eq_true,decide_eq_true_eq,beq_iff_eq]at h
   rw[h.1,h.2];exact .refl _
  ·rw[beq_iff_eq.1 h];exact .refl _
  ·rw[beq_iff_eq.1 h];exact .refl _
  ·exact .refl _
  ·exact .refl _
  ·exact .az _
  ·rw[Bool.and_eq_true,beq_iff_eq]at h
   obtain⟨rfl,h⟩:=h
   obtain⟨h1,h2⟩:=oP h
   exact .sls h1 λi x y hx hy=>ja (h2 i x y hx hy)
  ·rw[Bool.and_eq_true,beq_iff_eq]at h
   obtain⟨rfl,h⟩:=h
   obtain⟨h1,h2⟩:=oP h
   exact .trans (.lits h1 λi x y hx hy=>ja (h2 i x y hx hy)) (.lit _ _)
  ·rw[Bool.and_eq_true,beq_iff_eq]at h
   obtain⟨rfl,h⟩:=h
   obtain⟨h1,h2⟩:=oP h
   exact .agg h1 λi x y hx hy=>ja (h2 i x y hx hy)
  ·cases h
end Go.Av
end
section
namespace Go.Av
def Nb (all:List Pkg)(i:Nat):Prop:=∃ S,vP all S∧S i=true
def Xs (all:List Pkg)(i j:Nat):Prop:=∃ S,vP all S∧S i=true∧S j=true
def Xz (all:List Pkg)(i j:Nat):Prop:=∃ S,vP all S∧S i=true∧S j=false
structure lO (all:List Pkg)(i j:Nat):Prop where
 ne:i≠j
 can:Nb all i
 not: ¬Xz all i j
structure th (all:List Pkg)(i j:Nat):Prop where
 ne:i≠j
 can:Nb all i
 Ui:Nb all j
 not: ¬Xs all i j
theorem lO.sel {all:List Pkg}{i j:Nat}(h:lO all i j){S:Nat→Bool}(hS:vP all S)(hi:S i=true):S j=true:=by
 cases hj:S j with
 |true=>rfl
 |false=>exact absurd ⟨S,hS,hi,hj⟩ h.not
theorem lO.trans {all:List Pkg}{i j k:Nat}(h:lO all i j)(h':lO all j k)(hk:k≠i):lO all i k:=
 ⟨λe=>hk e.symm,h.can,λ⟨_,hS,hi,hk⟩=>by rw[h'.sel hS (h.sel hS hi)]at hk;cases hk⟩
theorem lO.never {all:List Pkg}{i j k:Nat}(h:lO all i j)(h':th all j k):th all i k:=by
 refine⟨λe=>?_,h.can,h'.Ui,λ⟨S,hS,hi,hk⟩=>h'.not ⟨S,hS,h.sel hS hi,hk⟩⟩
 subst e
 obtain⟨S,hS,hi⟩:=h.can
 exact h'.not ⟨S,hS,h.sel hS hi,hi⟩
theorem th.symm {all:List Pkg}{i j:Nat}(h:th all i j):th all j i:=
 ⟨λe=>h.ne e.symm,h.Ui,h.can,λ⟨S,hS,hj,hi⟩=>h.not ⟨S,hS,hi,hj⟩⟩
theorem jb (p q:Pkg):dQ p q=dQ q p:=by
 unfold dQ
 rw[Bool.or_comm (iZ p q)]
 congr 1
 rw[Bool.eq_iff_iff]
 simp only[bne_iff_ne,ne_eq]
 exact⟨λh e=>h e.symm,λh e=>h e.symm⟩
end Go.Av
end
section
namespace Go.Av
theorem fe (a b:Int):sgn b a= -sgn a b:=by
 unfold sgn
 split<;>split<;>(try split)<;>(try split)<;>omega
theorem mZ (a b:List UInt8):bL a b=if rk a=0∧rk b=0 then 0 else if rk a=rk b then bL a.tail b.tail else sgn (rk a) (rk b):=by
 by_cases h1:rk a=0∧rk b=0
 ·rw[if_pos h1,fG h1.1 h1.2]
 ·rw[if_neg h1]
  by_cases h2:rk a=rk b
  ·rw[if_pos h2,fD (λe=>h1 ⟨e,by rw[←h2];exact e⟩) h2]
  ·rw[if_neg h2,dp h2]
theorem qQ : ∀(n:Nat) (a b:List UInt8),a.length≤n→bL b a= -bL a b
 |0,a,b,h=>by
  have:a=[]:=List.eq_nil_of_length_eq_zero (by omega)
  subst this
  rw[mZ b,mZ []]
  have h0:rk []=0:=rfl
  rw[h0]
  by_cases hb:rk b=0
  ·simp[hb]
  ·rw[if_neg (λe=>hb e.1),if_neg hb,if_neg (λe=>hb e.2),if_neg (λe=>hb e.symm),fe]
 |n+1,a,b,h=>by
  rw[mZ b,mZ a]
  by_cases h1:rk a=0∧rk b=0
  ·rw[if_pos h1,if_pos ⟨h1.2,h1.1⟩];rfl
  ·rw[if_neg h1,if_neg (λe=>h1 ⟨e.2,e.1⟩)]
   by_cases h2:rk a=rk b
   ·have ha:rk a≠0:=λe=>h1 ⟨e,by rw[←h2];exact e⟩
    obtain⟨c,r,rfl,_⟩:=Ao ha
    rw[if_pos h2,if_pos h2.symm]
    exact qQ n r b.tail (by simpa using h)
   ·rw[if_neg h2,if_neg (λe=>h2 e.symm),fe]
theorem vz : ∀(a b:List UInt8),e7 b a= -e7 a b
 |[],b=>by cases b<;>rfl
 |x::a,[]=>rfl
 |x::a,y::b=>by
  unfold e7
  by_cases h:x=y
  ·rw[if_pos h,if_pos h.symm];exact vz a b
  ·rw[if_neg h,if_neg (λe=>h e.symm),fe]
theorem sv {a b:List UInt8}(h: ¬(a=[]∧b=[])):aZ a b=if bL a b≠0 then bL a b
  else if bb (aJ a)≠bb (aJ b)then sgn (bb (aJ a)) (bb (aJ b))
  else if e7 ((aJ a).take (bb (aJ a))) ((aJ b).take (bb (aJ b)))≠0 then e7 ((aJ a).take (bb (aJ a))) ((aJ b).take (bb (aJ b)))
  else aZ ((aJ a).drop (bb (aJ a))) ((aJ b).drop (bb (aJ b))):=by
 rw[aZ,dif_neg h]
theorem sx : ∀(n:Nat) (a b:List UInt8),a.length+b.length≤n→aZ b a= -aZ a b
 |0,a,b,h=>by
  have h1:a=[]:=List.eq_nil_of_length_eq_zero (by omega)
  have h2:b=[]:=List.eq_nil_of_length_eq_zero (by omega)
  subst h1 h2
  rw[aZ,dif_pos ⟨rfl,rfl⟩];rfl
 |n+1,a,b,h=>by
  by_cases h0:a=[]∧b=[]
  ·rw[aZ,dif_pos ⟨h0.2,h0.1⟩,aZ,dif_pos h0];rfl
  ·have hlt:=sd h0
   have ih:=sx n ((aJ a).drop (bb (aJ a))) ((aJ b).drop (bb (aJ b))) (by omega)
   rw[sv (a:=b) (b:=a) (λe=>h0 ⟨e.2,e.1⟩),sv h0,qQ _ a b (Nat.le_refl _)]
   by_cases h1:bL a b=0
   ·rw[if_neg (show ¬(-bL a b≠0) by omega),if_neg (show ¬(bL a b≠0) by omega)]
    by_cases h2:bb (aJ a)=bb (aJ b)
    ·rw[if_neg (show ¬(bb (aJ b)≠bb (aJ a)) by omega),if_neg (show ¬(bb (aJ a)≠bb (aJ b)) by omega),vz ((aJ a).take (bb (aJ a)))]
     by_cases h3:e7 ((aJ a).take (bb (aJ a))) ((aJ b).take (bb (aJ b)))=0
     ·rw[if_neg (show ¬(-e7 ((aJ a).take (bb (aJ a))) ((aJ b).take (bb (aJ b)))≠0) by omega),if_neg (show ¬(e7 ((aJ a).take (bb (aJ a))) ((aJ b).take (bb (aJ b)))≠0) by omega)];exact ih
     ·rw[if_pos (show-e7 ((aJ a).take (bb (aJ a))) ((aJ b).take (bb (aJ b)))≠0 by omega),if_pos h3]
    ·rw[if_pos (show bb (aJ b)≠bb (aJ a) by omega),if_pos h2,fe]
   ·rw[if_pos (show-bL a b≠0 by omega),if_pos h1]
theorem nT (a b:List UInt8):aZ b a= -aZ a b:=sx _ a b (Nat.le_refl _)
theorem gP (a b:List UInt8):bo b a= -bo a b:=by
 unfold bo
 rcases eB a with _|⟨e,u,r⟩
 ·rcases eB b with _|⟨f,v,s⟩<;>rfl
 ·rcases eB b with _|⟨f,v,s⟩
  ·rfl
  ·show(if aZ f e≠0 then aZ f e else if aZ v u≠0 then aZ v u else aZ s r)= -(if aZ e f≠0 then aZ e f else if aZ u v≠0 then aZ u v else aZ r s)
   rw[nT e f,nT u v,nT r s]
   by_cases h1:aZ e f=0
   ·by_cases h2:aZ u v=0
    ·simp[h1,h2]
    ·rw[if_neg (show ¬(-aZ e f≠0) by omega),if_neg (show ¬(aZ e f≠0) by omega),if_pos (show-aZ u v≠0 by omega),if_pos h2]
   ·rw[if_pos (show-aZ e f≠0 by omega),if_pos h1]
theorem kX (a b:List UInt8):bm b a=bm a b:=by
 unfold bm
 rw[gP a b,Bool.and_comm (bk b)]
 congr 1
 rw[Bool.eq_iff_iff,beq_iff_eq,beq_iff_eq]
 omega
theorem mg (p q:Pkg):cL p q=cL q p:=by
 unfold cL
 rw[kX]
 congr 1
 rw[Bool.eq_iff_iff,beq_iff_eq,beq_iff_eq]
 exact⟨λh=>h.symm,λh=>h.symm⟩
theorem lY : ∀(l bef:List Pkg),jz bef l=false↔(∀p∈l,∀q∈bef,cL p q=false)∧l.Pairwise λx y=>cL y x=false
 |[],bef=>by simp[jz]
 |p::r,bef=>by
  rw[jz,Bool.or_eq_false_iff,lY r,List.pairwise_cons,List.any_eq_false]
  constructor
  ·rintro⟨h1,h2,h3⟩
   refine⟨λx hx q hq=>?_,λx hx=>h2 x hx p (by simp),h3⟩
   rcases List.mem_cons.1 hx with rfl|hx
   ·simpa using h1 q hq
   ·exact h2 x hx q (by simp[hq])
  ·rintro⟨h1,h2,h3⟩
   refine⟨λq hq=>by simpa using h1 p (by simp) q hq,λx hx q hq=>?_,h3⟩
   rcases List.mem_append.1 hq with hq|hq
   ·exact h1 x (by simp[hx]) q hq
   ·rw[List.mem_singleton.1 hq];exact h2 x hx
theorem HI (l:List Pkg):jz [] l.reverse=jz [] l:=by
 have:l.Pairwise (λa b=>cL a b=false)↔l.Pairwise (λx y=>cL y x=false):=by
  constructor<;>intro h<;>refine h.imp λ{a b} h=>by rw[mg];exact h
 have key:jz [] l.reverse=false↔jz [] l=false:=by
  rw[lY,lY,List.pairwise_reverse]
  exact⟨λh=>⟨by simp,this.1 h.2⟩,λh=>⟨by simp,this.2 h.2⟩⟩
 cases h:jz [] l with
 |false=>exact key.2 h
 |true=>
  cases h':jz [] l.reverse with
  |true=>rfl
  |false=>rw[key.1 h']at h;cases h
theorem fx : ∀(l:List Pkg) (acc:List (List UInt8)) (x:List UInt8),x∈cG l acc↔x∈acc∨ ∃p∈l,p.name=x
 |[],acc,x=>by simp[cG]
 |p::r,acc,x=>by
  rw[cG,fx r]
  by_cases h:acc.any (λx=>p.name==x)=true
  ·rw[if_pos h]
   obtain⟨y,hy,e⟩:=List.any_eq_true.1 h
   have e:=beq_iff_eq.1 e
   constructor
   ·rintro(h|⟨q,hq,e⟩)
    ·exact .inl h
    ·exact .inr ⟨q,by simp[hq],e⟩
   ·rintro(h|⟨q,hq,e'⟩)
    ·exact .inl h
    ·rcases List.mem_cons.1 hq with rfl|hq
     ·exact .inl (by rw[←e',e];exact hy)
     ·exact .inr ⟨q,hq,e'⟩
  ·rw[if_neg h,List.mem_append,List.mem_singleton]
   constructor
   ·rintro((h|rfl)|⟨q,hq,e⟩)
    ·exact .inl h
    ·exact .inr ⟨p,by simp,rfl⟩
    ·exact .inr ⟨q,by simp[hq],e⟩
   ·rintro(h|⟨q,hq,e'⟩)
    ·exact .inl (.inl h)
    ·rcases List.mem_cons.1 hq with rfl|hq
     ·exact .inl (.inr e'.symm)
     ·exact .inr ⟨q,hq,e'⟩
theorem eQ : ∀(l:List Pkg) (acc:List (List UInt8)),acc.Nodup→(cG l acc).Nodup
 |[],acc,h=>h
 |p::r,acc,h=>by
  rw[cG]
  refine eQ r _ ?_
  by_cases hm:acc.any (λx=>p.name==x)=true
  ·rw[if_pos hm];exact h
  ·rw[if_neg hm]
   refine List.nodup_append.2 ⟨h,by simp,λa ha b hb e=>?_⟩
   rw[List.mem_singleton]at hb
   subst hb
   exact hm (List.any_eq_true.2 ⟨a,ha,by simp[e]⟩)
theorem mO {α:Type} [DecidableEq α]: ∀(l m:List α),l.Nodup→(∀x∈l,x∈m)→l.length≤m.length
 |[],_,_,_=>Nat.zero_le _
 |x::l,m,hn,h=>by
  rw[List.nodup_cons]at hn
  have hx:=h x (by simp)
  have:=mO l (m.erase x) hn.2 λy hy=>by
   have hne:y≠x:=λe=>hn.1 (by rw[←e];exact hy)
   exact(List.mem_erase_of_ne hne).2 (h y (by simp[hy]))
  rw[List.length_erase_of_mem hx]at this
  have:=List.length_pos_of_mem hx
  simp;omega
theorem BU (l:List Pkg):(cG l.reverse []).length=(cG l []).length:=by
 have h: ∀x,x∈cG l.reverse []↔x∈cG l []:=λx=>by rw[fx,fx];simp
 exact Nat.le_antisymm (mO _ _ (eQ _ _ (by simp)) λx hx=>(h x).1 hx) (mO _ _ (eQ _ _ (by simp)) λx hx=>(h x).2 hx)
theorem rY : ∀(l:List Int),orL l=0↔ ∀x∈l,x=0
 |[]=>by simp[orL]
 |y::r=>by
  constructor
  ·exact gg
  ·intro h
   rw[orL,if_neg (by simp[h y (by simp)])]
   exact(rY r).2 λx hx=>h x (by simp[hx])
theorem BJ (l:List Pkg):bg l.reverse=0↔bg l=0:=by
 have ho:orL (l.reverse.map aL)=0↔orL (l.map aL)=0:=by rw[rY,rY];simp
 unfold bg
 rw[List.length_reverse,HI,BU]
 by_cases h1:24<l.length
 ·rw[if_pos h1,if_pos h1]
 ·rw[if_neg h1,if_neg h1]
  by_cases h2:orL (l.map aL)=0
  ·rw[if_neg (show ¬(orL (l.reverse.map aL)≠0)from λe=>e (ho.2 h2)),if_neg (show ¬(orL (l.map aL)≠0)from λe=>e h2)]
  ·have h3:orL (l.reverse.map aL)≠0:=λe=>h2 (ho.1 e)
   rw[if_pos h2,if_pos h3]
   exact⟨λe=>absurd e h3,λe=>absurd e h2⟩
end Go.Av
end
section
namespace Go.Av
structure HL (l:List Pkg):Prop where
 may: ∀p∈l,aL p=0
 pair:l.Pairwise λp q=>p.name≠q.name∧dQ p q=false
 met: ∀p∈l,∀c∈p.pre++p.dep,∃q∈l,c.any (cS q)=true
theorem yF {c:Clause}{l:List Pkg}:ll c l=true↔ ∃q∈l,c.any (cS q)=true:=by
 unfold ll
 simp only[List.any_eq_true]
 constructor
 ·rintro⟨a,ha,q,hq,h⟩
  exact⟨q,hq,a,ha,h⟩
 ·rintro⟨q,hq,a,ha,h⟩
  exact⟨a,ha,q,hq,h⟩
theorem Dh {l bef:List Pkg}{p:Pkg}:pe l bef p=false↔aL p=0∧(∀q∈bef,q.name≠p.name∧dQ p q=false)∧ ∀c∈p.pre++p.dep,∃q∈l,c.any (cS q)=true:=by
 unfold pe
 simp only[Bool.or_eq_false_iff,bne_eq_false_iff_eq,List.any_eq_false,Bool.not_eq_true',Bool.not_eq_true,Bool.not_eq_false',List.mem_append,←yF]
 constructor
 ·rintro⟨⟨h1,h2⟩,h3,h4⟩
  refine⟨h1,λq hq=>?_,λc hc=>?_⟩
  ·have:=h2 q hq
   simp at this
   exact this
  ·rcases hc with hc|hc
   ·simpa using h3 c hc
   ·simpa using h4 c hc
 ·rintro⟨h1,h2,h3⟩
  refine⟨⟨h1,λq hq=>?_⟩,λc hc=>by simpa using h3 c (.inl hc),λc hc=>by simpa using h3 c (.inr hc)⟩
  have:=h2 q hq
  simp[this]
theorem vy {l:List Pkg}: ∀(r bef:List Pkg),qO l bef r=false↔(∀p∈r,aL p=0∧ ∀c∈p.pre++p.dep,∃q∈l,c.any (cS q)=true)∧(∀p∈r,∀q∈bef,q.name≠p.name∧dQ p q=false)∧r.Pairwise λq p=>q.name≠p.name∧dQ p q=false
 |[],bef=>by simp[qO]
 |p::r,bef=>by
  rw[qO,Bool.or_eq_false_iff,Dh,vy r,List.pairwise_cons]
  constructor
  ·rintro⟨⟨h1,h2,h3⟩,h4,h5,h6⟩
   refine⟨λx hx=>?_,λx hx q hq=>?_,λx hx=>h5 x hx p (by simp),h6⟩
   ·rcases List.mem_cons.1 hx with rfl|hx
    ·exact⟨h1,h3⟩
    ·exact h4 x hx
   ·rcases List.mem_cons.1 hx with rfl|hx
    ·exact h2 q hq
    ·exact h5 x hx q (by simp[hq])
  ·rintro⟨h1,h2,h3,h4⟩
   refine⟨⟨(h1 p (by simp)).1,λq hq=>h2 p (by simp) q hq,(h1 p (by simp)).2⟩,λx hx=>h1 x (by simp[hx]),λx hx q hq=>?_,h4⟩
   rcases List.mem_append.1 hq with hq|hq
   ·exact h2 x (by simp[hx]) q hq
   ·rw[List.mem_singleton.1 hq];exact h3 x hx
theorem rj {l:List Pkg}:dz l=true↔HL l:=by
 unfold dz
 rw[Bool.not_eq_true',vy]
 constructor
 ·rintro⟨h1,_,h3⟩
  exact⟨λp hp=>(h1 p hp).1,h3.imp λ{a b} h=>⟨h.1,by rw[jb];exact h.2⟩,λp hp=>(h1 p hp).2⟩
 ·intro h
  exact⟨λp hp=>⟨h.may p hp,h.met p hp⟩,by simp,h.pair.imp λ{a b} h=>⟨h.1,by rw[jb];exact h.2⟩⟩
theorem HL.perm {l m:List Pkg}(h:HL l)(hp:l.Perm m):HL m:=
 ⟨λp hm=>h.may p (hp.symm.subset hm),hp.pairwise h.pair λ{a b} h=>⟨λe=>h.1 e.symm,by rw[jb];exact h.2⟩,λp hm c hc=>by
  obtain⟨q,h1,h2⟩:=h.met p (hp.symm.subset hm) c hc
  exact⟨q,hp.subset h1,h2⟩⟩
def pick (S:Nat→Bool):Nat→List Pkg→List Pkg
 |_,[]=>[]
 |i,p::r=>if S i=true then p::pick S (i+1) r else pick S (i+1) r
end Go.Av
end
section
namespace Go.Proofs.Tryz
open Go Go.Av
def Me (all:List Pkg)(S:Nat→Bool)(x:Clause):Prop:=∃ (m:Nat) (q:Pkg),all[m]?=some q∧x.any (cS q)=true∧S m=true
def L0 (all:List Pkg)(S:Nat→Bool)(i:Nat)(x:Atom):Prop:=∀ (m:Nat) (q:Pkg),all[m]?=some q→S m=true→m≠i→cS q x=false
structure NV (all:List Pkg)(S:Nat→Bool)(c:Nat×Nat×Nat):Prop where
 pre:c.2.1=1→ ∀p x,all[c.1]?=some p→p.pre[c.2.2]?=some x→Me all S x
 dep:c.2.1=2→ ∀p x,all[c.1]?=some p→p.dep[c.2.2]?=some x→Me all S x
 con:c.2.1=3→ ∀p x,all[c.1]?=some p→p.con[c.2.2]?=some x→L0 all S c.1 x
 brk:c.2.1=4→ ∀p x,all[c.1]?=some p→p.brk[c.2.2]?=some x→L0 all S c.1 x
structure XD (all:List Pkg)(e:List (Nat×Nat×Nat))(S:Nat→Bool):Prop where
 name: ∀(a b:Nat) (p q:Pkg),all[a]?=some p→all[b]?=some q→a≠b→S a=true→S b=true→p.name≠q.name
 XA: ∀c∈e,S c.1=true→NV all S c
end Go.Proofs.Tryz
end
section
namespace Go.Proofs.Tryz
open Go Go.Av
def J4 (all:List Pkg)(c:Nat×Nat×Nat):Clause:=match all[c.1]? with
 |some p=>(match c.2.1 with
  |1=>(p.pre[c.2.2]?).getD []
  |2=>(p.dep[c.2.2]?).getD []
  |3=>((p.con[c.2.2]?).map λx=>[x]).getD []
  |_=>((p.brk[c.2.2]?).map λx=>[x]).getD [])
 |none=>[]
def Vs (all:List Pkg)(cl:Clause)(m:Nat):Bool:=match all[m]? with
 |some q=>cl.any (cS q)
 |none=>false
def jY (all:List Pkg)(cl:Clause)(n:Nat):List Nat:=(List.range n).filter (Vs all cl)
def Bx (all:List Pkg)(c:Nat×Nat×Nat):List Nat:=jY all (J4 all c) all.length
structure XE (all:List Pkg)(e:List (Nat×Nat×Nat))(S:Nat→Bool):Prop where
 name: ∀i k,k<i→i<all.length→L7 all k=L7 all i→S i=true→S k=true→False
 con: ∀c∈e,(c.2.1=3∨c.2.1=4)→ ∀m∈Bx all c,m≠c.1→S c.1=true→S m=true→False
 dep: ∀c∈e,(c.2.1=1∨c.2.1=2)→S c.1=true→ ∃m∈Bx all c,S m=true
end Go.Proofs.Tryz
end
section
namespace Go.Proofs.Tryz
open Go Go.Av
set_option maxRecDepth 10000
variable {W0 :World}
theorem iS {x y a b:AV}(h1:cR x y)(h2:cR a b):cR (.tup [x,a]) (.tup [y,b]):=.tup rfl λi u v hu hv=>by
 rcases i with _|_|i<;>simp at hu hv
 ·subst hu hv;exact h1
 ·subst hu hv;exact h2
end Go.Proofs.Tryz
end
