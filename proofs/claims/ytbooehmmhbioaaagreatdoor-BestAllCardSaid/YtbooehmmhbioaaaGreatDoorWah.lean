/- Texts that the last one of this claim rests on: a layer over the guide's own conditions for code; contracts of the functions that the law reaches, one by one. No conditions beside those of the given rows. -/
import Derived.Lib.Bytealg
import Derived.Test.YtbooehmmhbioaaaGreatDoorWad
import Derived.Test.YtbooehmmhbioaaaGreatDoorWaf
import Derived.Test.YtbooehmmhbioaaaGreatDoorWag
set_option linter.unusedSimpArgs false
set_option linter.unusedVariables false
section
namespace Go.Av
open Go
def eR {α:Type}(q:α→Bool)(l:List α):Int:=match l.findIdx? q with|some i=>i|none=>-1
theorem eQ {α:Type}{q:α→Bool}{l:List α}{i:Nat}{a:α}(h:l[i]?=some a)(hq:q a=true)(hn: ∀b∈l.take i,q b=false):eR q l=i:=by
 have:l.findIdx? q=some i:=by
  obtain⟨hi,he⟩:=List.getElem?_eq_some_iff.1 h
  refine List.findIdx?_eq_some_iff_getElem.2 ⟨hi,by rw[he];exact hq,λj hj=>?_⟩
  have:=hn l[j] (List.mem_of_getElem? (i:=j) (by rw[List.getElem?_take,if_pos hj];exact List.getElem?_eq_getElem (by omega)))
  simp[this]
 rw[eR,this]
theorem dp {α:Type}{q:α→Bool}{l:List α}(hn: ∀b∈l,q b=false):eR q l= -1:=by
 have:l.findIdx? q=none:=List.findIdx?_eq_none_iff.2 hn
 rw[eR,this]
theorem jl {α:Type}{q:α→Bool}{l:List α}:decide (0≤eR q l)=l.any q:=by
 unfold eR
 cases h:l.findIdx? q with
 |none=>
  have:=List.findIdx?_eq_none_iff.1 h
  have e:l.any q=false:=by rw[List.any_eq_false];intro x hx;simp[this x hx]
  rw[e];rfl
 |some i=>
  obtain⟨hi,h1,_⟩:=List.findIdx?_eq_some_iff_getElem.1 h
  have e:l.any q=true:=List.any_eq_true.2 ⟨_,List.getElem_mem hi,h1⟩
  rw[e]
  simp
theorem bO {σ:ab}{id:Nat}{te:TypeId}{xs:List AV}(h:id<σ.length)(i:Nat)(path:List Nat):look (σ.set id (some (.cells te xs))) id i path=(xs[i]?).bind (·.at path):=by simp[look,h]
theorem ax {σ:ab}{id:Nat}{te:TypeId}{xs:List AV}(h:σ[id]?=some (some (.cells te xs)))(i:Nat)(path:List Nat):look σ id i path=(xs[i]?).bind (·.at path):=by simp[look,h]
theorem dm {σ:ab}{id:Nat}{te:TypeId}{xs:List AV}(h:id<σ.length)(i:Nat)(path:List Nat)(v:AV):dA (σ.set id (some (.cells te xs))) id i path v=σ.set id (some (.cells te (xs.set i ((xs[i]?.getD .undef).setAt path v)))):=by simp[dA,h]
theorem aN {σ:ab}{id:Nat}{te:TypeId}{xs:List AV}(h:σ[id]?=some (some (.cells te xs)))(i:Nat)(path:List Nat)(v:AV):dA σ id i path v=σ.set id (some (.cells te (xs.set i ((xs[i]?.getD .undef).setAt path v)))):=by simp[dA,h]
theorem gz {σ:ab}{id:Nat}{o:Option c9}(h:σ[id]?=some o):σ.set id o=σ:=by
 obtain⟨h1,h2⟩:=List.getElem?_eq_some_iff.1 h
 rw[←h2,List.set_getElem_self]
@[go_sem] theorem O8 (t:TypeId)(fs:List AV)(k:Nat)(r:List Nat)(v:AV):(AV.agg t fs).setAt (k::r) v= .agg t (fs.set k ((fs[k]?.getD .undef).setAt r v)):=by
 cases h:fs[k]? with
 |none=>simp only[AV.setAt,h,Option.getD_none];rw[List.set_eq_of_length_le (List.getElem?_eq_none_iff.1 h)]
 |some y=>simp only[AV.setAt,h,Option.getD_some]
theorem ak.go {P:Program}{W0:World}{A:aa}{g:FuncId}{caps us:List AV}{dst:Option Nat}{k:aa→Prop}{Q:AV→ab→Prop}{σ:ab}(hσ:A.st=σ)(h:bg P W0 g (us++caps) σ Q)(hk: ∀r σ',Q r σ'→k ((A.put dst r).ar σ')):ak P W0 (.fn g caps) us dst A k .mk:=by
 subst hσ
 exact h.mono hk
theorem ak.goes {P:Program}{W0:World}{A:aa}{g:FuncId}{us:List AV}{dst:Option Nat}{k:aa→Prop}{Q:AV→ab→Prop}{σ:ab}(hσ:A.st=σ)(h:bg P W0 g us σ Q)(hk: ∀r σ',Q r σ'→k ((A.put dst r).ar σ')):ak P W0 (.fn g []) us dst A k .mk:=.go hσ (by simpa using h) hk
theorem ak.reads {P:Program}{W0:World}{A:aa}{g:FuncId}{us:List AV}{dst:Option Nat}{k:aa→Prop}{r:AV}{σ:ab}(hσ:A.st=σ)(h:bg P W0 g us σ λr' σ'=>r'=r∧σ'=σ)(hk:k (A.put dst r)):ak P W0 (.fn g []) us dst A k .mk:=.goes hσ h λr' σ' ⟨h1,h2⟩=>by
 subst h1 h2 hσ
 rwa [oD]
theorem Jy (c:UInt8):IntKind.u8.wrap (c.toNat:Int)=c.toNat:=by
 have:=c.toNat_lt
 show(c.toNat:Int) % 256=c.toNat
 omega
theorem Cs {c:UInt8}(h:c.toNat<128):z7 (c.toNat:Int)=[c]:=by
 have hv:Utf8.valid (c.toNat:Int)=true:=by
  simp only[Utf8.valid]
  simp
  omega
 have e:Utf8.encode (c.toNat:Int)=⟨#[UInt8.ofNat c.toNat]⟩:=by
  unfold Utf8.encode
  rw[if_pos hv,if_pos (by simpa using h)]
  simp
 rw[z7,e]
 simp
def fR (a b:List UInt8):Int:=if Op.bytesLess a b=true then-1 else if a=b then 0 else 1
def orL :List Int→Int
 |[]=>0
 |x::r=>if x≠0 then x else orL r
theorem pQ (s:List UInt8)(c:UInt8):Lib.indexByte s c=aT c s:=by
 induction s with
 |nil=>rfl
 |cons d r ih=>
  unfold Lib.indexByte
  cases h:d==c with
  |true=>simp[aT,List.findIdx?_cons,h]
  |false=>
   simp only[Bool.false_eq_true,if_false,ih]
   rcases im c r with⟨h1,h2⟩|⟨i,h1,_,_⟩
   ·rw[h1]
    have:(d::r).findIdx? (· ==c)=none:=List.findIdx?_eq_none_iff.2 λx hx=>by
     rcases List.mem_cons.1 hx with rfl|hx
     ·exact h
     ·simp;intro e;subst e;exact h2 hx
    simp[aT,this]
   ·have hne:((aT c r)== -1)=false:=by rw[h1,beq_eq_false_iff_ne];omega
    rw[hne]
    simp only[Bool.false_eq_true,if_false]
    have hf:r.findIdx? (· ==c)=some i:=by
     unfold aT at h1
     split at h1
     ·rename_i j hj;rw[hj];congr 1;omega
     ·omega
    rw[h1]
    simp[aT,List.findIdx?_cons,h,hf]
theorem Bf (s:List UInt8)(c:UInt8):decide (0≤aT c s)=s.contains c:=by
 rcases im c s with⟨h1,h2⟩|⟨i,h1,h2,_⟩
 ·rw[h1];simp[h2]
 ·rw[h1]
  have:c∈s:=List.mem_of_getElem? h2
  simp[this]
def KL (c:UInt8)(s:List UInt8):List UInt8:=if 0≤aT c s then s.take (aT c s).toNat else s
def GX (c:UInt8)(s:List UInt8):List UInt8:=if 0≤aT c s then s.drop ((aT c s).toNat+1)else []
def tM (c:UInt8)(s:List UInt8):AV:=.tup [.str (KL c s),.str (GX c s),.bool (decide (0≤aT c s))]
theorem wK (c:UInt8)(s:List UInt8):aW 0 (tM c s):=by
 refine .tup λx hx=>?_
 simp at hx
 rcases hx with rfl|rfl|rfl<;>first|exact .str _|exact .bool _
end Go.Av
end
section
namespace Go.Proofs.Tryz
open Go Go.Av
set_option maxRecDepth 10000
variable {W0 :World}
def aS (a:Atom):AV:=.agg 81 [.str a.name,.int .i64 a.rel,.str a.ver]
def aB (l:List Atom):AV:=.sl 81 (l.map aS)
def av (l:List Clause):AV:=.sl 72 (l.map aB)
def dc (p:gX):AV:=.agg 147 [.str p.name,.str p.ver]
def bW (l:List gX):AV:=.sl 147 (l.map dc)
def au (p:Pkg):AV:=.agg 54 [.str p.name,.str p.ver,av p.pre,av p.dep,av p.rcm,aB p.con,aB p.brk,bW p.dF,.bool p.ess]
def aH (l:List Pkg):AV:=.sl 54 (l.map au)
theorem yu (s:List UInt8):ah prog W0 51 [.str s] (.bool (cW s)):=by
 refine al [2] [] func51 rfl rfl ntmps51 rfl rfl (.bool _) λhs σ=>?_
 have hsl:s.length≤maxLen:=da (hs _ (by simp))
 simp only[go_sem,simprocAttr]
 refine VC.upto [] s.length (λi A=>A.env 0= .str s∧A.env 6= .int .i64 s.length∧A.env 7= .int .i64 i∧A.st=σ∧ ∀j c,j<i→s[j]?=some c→jb j c=true) 0 (Nat.zero_le _) (.here ?_) λi A hi ⟨h0,h6,h7,hst,hI⟩=>?_
 ·simp only[go_sem,simprocAttr]
  all_goals simp
 simp only[go_sem,simprocAttr,h0,h6,h7,hst]
 refine⟨λhc=>⟨hc,ak.fn (AN _) ?_⟩,λhc=>?_⟩
 ·obtain⟨c,hc'⟩:=get_some hc
  simp only[go_sem,simprocAttr,h0,h6,h7,hst,hc']
  refine ay.fnG (λ_=>fJ _) ?_
  simp only[go_sem,simprocAttr,h0,h6,h7,hst,hc']
  refine⟨λhb=>ai ?_,λhb=>⟨hc,.here ?_⟩⟩
  ·have:jb i c=false:=by simp[jb]at hb ⊢;refine⟨hb.1,?_⟩;omega
   rw[cW,nO hc' this,Bool.and_false]
  ·simp only[go_sem,simprocAttr,h0,h6,h7,hst]
   refine⟨af hc hsl,λj d hj hd=>?_⟩
   rcases Nat.lt_succ_iff_lt_or_eq.1 hj with hj|rfl
   ·exact hI j d hj hd
   ·have e:d=c:=by rw[hd]at hc';exact Option.some.inj hc'
    subst e
    revert hb
    unfold jb
    cases ja d<;>cases aK d<;>simp
    omega
 ·have:jm jb 0 s=true:=j3.2 λj c hj=>by rw[Nat.zero_add];exact hI j c (by have:=(List.getElem?_eq_some_iff.1 hj).1;omega) hj
  refine ai ?_
  rw[cW,this,Bool.and_true]
  congr 1<;>exact decide_eq_decide.2 (by omega)
theorem Cn (rel:Int):(!(pU rel==[]))=(decide (1≤rel)&&decide (rel≤5)):=by
 unfold pU
 by_cases h1:rel=1
 ·subst h1;rfl
 by_cases h2:rel=2
 ·subst h2;rfl
 by_cases h3:rel=3
 ·subst h3;rfl
 by_cases h4:rel=4
 ·subst h4;rfl
 by_cases h5:rel=5
 ·subst h5;rfl
 rw[if_neg h1,if_neg h2,if_neg h3,if_neg h4,if_neg h5]
 simp
 omega
theorem tY (a:Atom):ah prog W0 137 [aS a] (.bool (cg a)):=by
 refine al [2] [1] func137 rfl rfl ntmps137 rfl rfl (.bool _) λhs σ=>?_
 simp only[go_sem,simprocAttr,aS]
 refine ak.fn (yu a.name) ?_
 simp only[go_sem,simprocAttr,aS]
 refine⟨λhn=>ai (by rw[cg,hn];rfl),λhn=>⟨λh0=>ai (by rw[cg,hn,if_pos h0];rfl),λh0=>ak.fn (IE a.rel) ?_⟩⟩
 simp only[go_sem,simprocAttr,aS]
 refine ay.fnG (λ_=>sc a.ver) ?_
 simp only[go_sem,simprocAttr,aS]
 refine ai ?_
 rw[cg,hn,if_neg h0,Bool.true_and,Cn]
end Go.Proofs.Tryz
end
section
namespace Go.Proofs.Tryz
open Go Go.Av
set_option maxRecDepth 10000
variable {W0 :World}
theorem pK (c:UInt8):ah prog W0 200 [.int .u8 c.toNat] (.bool (aK c)):=by
 refine al [2] [] func200 rfl rfl ntmps200 rfl rfl (.bool _) λ_ σ=>?_
 simp only[go_sem,simprocAttr]
 exact ai (by rw[aK];congr 1<;>exact decide_eq_decide.2 (by omega))
theorem vJ (c:UInt8):ah prog W0 236 [.int .u8 c.toNat] (.bool (cP c)):=by
 refine al [2] [] func236 rfl rfl ntmps236 rfl rfl (.bool _) λ_ σ=>?_
 simp only[go_sem,simprocAttr]
 refine ai ?_
 unfold cP ja
 congr 2<;>exact decide_eq_decide.2 (by omega)
theorem Bh (s:List UInt8):ah prog W0 198 [.str s] (.bool (decide (1≤s.length)&&decide (s.length≤9)&&s.all aK)):=by
 refine al [2] [] func198 rfl rfl ntmps198 rfl rfl (.bool _) λhs σ=>?_
 simp only[go_sem,simprocAttr]
 refine⟨λh=>ai ?_,λh=>?_⟩
 ·cases s with
  |nil=>rfl
  |cons c r=>
   have: ¬((c::r).length≤9):=by simp at h ⊢;omega
   rw[decide_eq_false this];simp
 have hl:1≤s.length∧s.length≤9:=by cases s<;>simp at h ⊢;omega
 refine VC.cu [] (λk A=>∃ pos,A.env 13= .it σ.length∧A.st=σ++[some (.iter s pos)]∧k=s.length-pos∧pos≤s.length∧(s.take pos).all aK=true) s.length (.here ⟨0,?_⟩) λk A ⟨pos,h13,hst,hk,hp,hI⟩=>?_
 ·simp only[go_sem,simprocAttr]
  all_goals simp
 simp only[go_sem,simprocAttr,h13,hst]
 refine⟨λhlt=>?_,λhge=>?_⟩
 ·obtain⟨c,hc⟩:=get_some hlt
  simp only[Bool.or_eq_true,Bool.or_eq_false_iff,decide_eq_true_eq,decide_eq_false_iff_not]
  have bad:aK c=false→(decide (1≤s.length)&&decide (s.length≤9)&&s.all aK)=false:=λhd=>by rw[all_false hc hd,Bool.and_false]
  rcases Nat.lt_or_ge c.toNat 128 with h8|h8
  ·rw[mD hc h8]
   refine⟨λhb=>ai (bad ?_).symm,λhb=>.here (s.length-(pos+1)) (by omega) ⟨pos+1,?_⟩⟩
   ·simp[aK];omega
   ·simp only[go_sem,simprocAttr,h13,hst]
    exact⟨by omega,mF hI hc (by simp[aK];omega)⟩
  ·have:=qI hc h8
   refine⟨λhb=>ai (bad ?_).symm,λhb=>by omega⟩
   simp[aK];omega
 ·have:pos=s.length:=by omega
  rw[this,List.take_length]at hI
  refine ai ?_
  simp[hl,hI]
end Go.Proofs.Tryz
end
section
namespace Go.Proofs.Tryz
open Go Go.Av
set_option maxRecDepth 10000
variable {W0 :World}
theorem Kq {α:Type}(enc:α→AV)(hp: ∀a,cY (enc a))(l:List α)(q:α→Bool)(g:FuncId)(caps:List AV)(h: ∀a∈l,ah prog W0 g ([enc a]++caps) (.bool (q a))):
  ah prog W0 239 [.sl 81 (l.map enc),.fn g caps] (.int .i64 (eR q l)):=by
 refine al [4] [] func239 rfl rfl ntmps239 rfl rfl (.int _ _) λhs σ=>?_
 have hl:=(aC (hs _ (List.mem_cons_self ..))).1
 simp only[go_sem,simprocAttr]
 refine ae.upto [0,1,7] (.of (by kernel_rfl)) l.length (λi A=>A.env 8= .int .i64 i∧A.st=σ∧ ∀a∈l.take i,q a=false) 0 (Nat.zero_le _) ?_ λi B hi ⟨h8,hst,hI⟩=>?_
 ·simp only[go_sem,simprocAttr]
  all_goals simp
 simp only[go_sem,simprocAttr,h8,hst,List.length_map]
 refine⟨λhc=>⟨hc,?_⟩,λhc=>aw ?_⟩
 ·obtain⟨a,ha⟩:=get_some hc
  simp only[an ha,bY (hp a),cH (hp a),true_and]
  refine ak.pure (h a (List.mem_of_getElem? ha)) ?_
  simp only[go_sem,simprocAttr,h8,hst]
  refine⟨λhq=>aw (eQ ha hq hI).symm,λhq=>⟨hc,af hc hl,?_⟩⟩
  rw[aj ha]
  intro b hb
  rcases List.mem_append.1 hb with hb|hb
  ·exact hI b hb
  ·rw[List.mem_singleton.1 hb];exact hq
 ·rw[dp]
  rwa [List.take_of_length_le hc]at hI
theorem Pe {α:Type}(enc:α→AV)(hp: ∀a,cY (enc a))(l:List α)(q:α→Bool)(g:FuncId)(caps:List AV)(h: ∀a∈l,ah prog W0 g ([enc a]++caps) (.bool (q a))):
  ah prog W0 233 [.sl 81 (l.map enc),.fn g caps] (.int .i64 (eR q l)):=by
 refine al [4] [] func233 rfl rfl ntmps233 rfl rfl (.int _ _) λhs σ=>?_
 have hl:=(aC (hs _ (List.mem_cons_self ..))).1
 simp only[go_sem,simprocAttr]
 refine ae.upto [0,1,7] (.of (by kernel_rfl)) l.length (λi A=>A.env 8= .int .i64 i∧A.st=σ∧ ∀a∈l.take i,q a=false) 0 (Nat.zero_le _) ?_ λi B hi ⟨h8,hst,hI⟩=>?_
 ·simp only[go_sem,simprocAttr]
  all_goals simp
 simp only[go_sem,simprocAttr,h8,hst,List.length_map]
 refine⟨λhc=>⟨hc,?_⟩,λhc=>aw ?_⟩
 ·obtain⟨a,ha⟩:=get_some hc
  simp only[an ha,bY (hp a),cH (hp a),true_and]
  refine ak.pure (h a (List.mem_of_getElem? ha)) ?_
  simp only[go_sem,simprocAttr,h8,hst]
  refine⟨λhq=>aw (eQ ha hq hI).symm,λhq=>⟨hc,af hc hl,?_⟩⟩
  rw[aj ha]
  intro b hb
  rcases List.mem_append.1 hb with hb|hb
  ·exact hI b hb
  ·rw[List.mem_singleton.1 hb];exact hq
 ·rw[dp]
  rwa [List.take_of_length_le hc]at hI
theorem Uq {α:Type}(enc:α→AV)(hp: ∀a,cY (enc a))(l:List α)(q:α→Bool)(g:FuncId)(caps:List AV)(h: ∀a∈l,ah prog W0 g ([enc a]++caps) (.bool (q a))):
  ah prog W0 83 [.sl 54 (l.map enc),.fn g caps] (.int .i64 (eR q l)):=by
 refine al [4] [] func83 rfl rfl ntmps83 rfl rfl (.int _ _) λhs σ=>?_
 have hl:=(aC (hs _ (List.mem_cons_self ..))).1
 simp only[go_sem,simprocAttr]
 refine ae.upto [0,1,7] (.of (by kernel_rfl)) l.length (λi A=>A.env 8= .int .i64 i∧A.st=σ∧ ∀a∈l.take i,q a=false) 0 (Nat.zero_le _) ?_ λi B hi ⟨h8,hst,hI⟩=>?_
 ·simp only[go_sem,simprocAttr]
  all_goals simp
 simp only[go_sem,simprocAttr,h8,hst,List.length_map]
 refine⟨λhc=>⟨hc,?_⟩,λhc=>aw ?_⟩
 ·obtain⟨a,ha⟩:=get_some hc
  simp only[an ha,bY (hp a),cH (hp a),true_and]
  refine ak.pure (h a (List.mem_of_getElem? ha)) ?_
  simp only[go_sem,simprocAttr,h8,hst]
  refine⟨λhq=>aw (eQ ha hq hI).symm,λhq=>⟨hc,af hc hl,?_⟩⟩
  rw[aj ha]
  intro b hb
  rcases List.mem_append.1 hb with hb|hb
  ·exact hI b hb
  ·rw[List.mem_singleton.1 hb];exact hq
 ·rw[dp]
  rwa [List.take_of_length_le hc]at hI
theorem Pw {α:Type}(enc:α→AV)(hp: ∀a,cY (enc a))(l:List α)(q:α→Bool)(g:FuncId)(caps:List AV)(h: ∀a∈l,ah prog W0 g ([enc a]++caps) (.bool (q a))):
  ah prog W0 229 [.sl 147 (l.map enc),.fn g caps] (.int .i64 (eR q l)):=by
 refine al [4] [] func229 rfl rfl ntmps229 rfl rfl (.int _ _) λhs σ=>?_
 have hl:=(aC (hs _ (List.mem_cons_self ..))).1
 simp only[go_sem,simprocAttr]
 refine ae.upto [0,1,7] (.of (by kernel_rfl)) l.length (λi A=>A.env 8= .int .i64 i∧A.st=σ∧ ∀a∈l.take i,q a=false) 0 (Nat.zero_le _) ?_ λi B hi ⟨h8,hst,hI⟩=>?_
 ·simp only[go_sem,simprocAttr]
  all_goals simp
 simp only[go_sem,simprocAttr,h8,hst,List.length_map]
 refine⟨λhc=>⟨hc,?_⟩,λhc=>aw ?_⟩
 ·obtain⟨a,ha⟩:=get_some hc
  simp only[an ha,bY (hp a),cH (hp a),true_and]
  refine ak.pure (h a (List.mem_of_getElem? ha)) ?_
  simp only[go_sem,simprocAttr,h8,hst]
  refine⟨λhq=>aw (eQ ha hq hI).symm,λhq=>⟨hc,af hc hl,?_⟩⟩
  rw[aj ha]
  intro b hb
  rcases List.mem_append.1 hb with hb|hb
  ·exact hI b hb
  ·rw[List.mem_singleton.1 hb];exact hq
 ·rw[dp]
  rwa [List.take_of_length_le hc]at hI
theorem FL {α:Type}(enc:α→AV)(hp: ∀a,cY (enc a))(l:List α)(q:α→Bool)(g:FuncId)(caps:List AV)(h: ∀a∈l,ah prog W0 g ([enc a]++caps) (.bool (q a))):
  ah prog W0 238 [.sl 72 (l.map enc),.fn g caps] (.int .i64 (eR q l)):=by
 refine al [4] [] func238 rfl rfl ntmps238 rfl rfl (.int _ _) λhs σ=>?_
 have hl:=(aC (hs _ (List.mem_cons_self ..))).1
 simp only[go_sem,simprocAttr]
 refine ae.upto [0,1,7] (.of (by kernel_rfl)) l.length (λi A=>A.env 8= .int .i64 i∧A.st=σ∧ ∀a∈l.take i,q a=false) 0 (Nat.zero_le _) ?_ λi B hi ⟨h8,hst,hI⟩=>?_
 ·simp only[go_sem,simprocAttr]
  all_goals simp
 simp only[go_sem,simprocAttr,h8,hst,List.length_map]
 refine⟨λhc=>⟨hc,?_⟩,λhc=>aw ?_⟩
 ·obtain⟨a,ha⟩:=get_some hc
  simp only[an ha,bY (hp a),cH (hp a),true_and]
  refine ak.pure (h a (List.mem_of_getElem? ha)) ?_
  simp only[go_sem,simprocAttr,h8,hst]
  refine⟨λhq=>aw (eQ ha hq hI).symm,λhq=>⟨hc,af hc hl,?_⟩⟩
  rw[aj ha]
  intro b hb
  rcases List.mem_append.1 hb with hb|hb
  ·exact hI b hb
  ·rw[List.mem_singleton.1 hb];exact hq
 ·rw[dp]
  rwa [List.take_of_length_le hc]at hI
end Go.Proofs.Tryz
end
section
namespace Go.Proofs.Tryz
open Go Go.Av
set_option maxRecDepth 10000
variable {W0 :World}
theorem Lk {α:Type}(enc:α→AV)(hp: ∀a,cY (enc a))(l:List α)(q:α→Bool)(g:FuncId)(caps:List AV)(h: ∀a∈l,ah prog W0 g ([enc a]++caps) (.bool (q a))):
  ah prog W0 203 [.sl 81 (l.map enc),.fn g caps] (.bool (l.any q)):=by
 refine al [4] [] func203 rfl rfl ntmps203 rfl rfl (.bool _) λhs σ=>?_
 simp only[go_sem,simprocAttr]
 refine ak.fn (Kq enc hp l q g caps h) ?_
 simp only[go_sem,simprocAttr]
 exact ai jl
theorem GO {α:Type}(enc:α→AV)(hp: ∀a,cY (enc a))(l:List α)(q:α→Bool)(g:FuncId)(caps:List AV)(h: ∀a∈l,ah prog W0 g ([enc a]++caps) (.bool (q a))):
  ah prog W0 193 [.sl 81 (l.map enc),.fn g caps] (.bool (l.any q)):=by
 refine al [4] [] func193 rfl rfl ntmps193 rfl rfl (.bool _) λhs σ=>?_
 simp only[go_sem,simprocAttr]
 refine ak.fn (Pe enc hp l q g caps h) ?_
 simp only[go_sem,simprocAttr]
 exact ai jl
theorem Mu {α:Type}(enc:α→AV)(hp: ∀a,cY (enc a))(l:List α)(q:α→Bool)(g:FuncId)(caps:List AV)(h: ∀a∈l,ah prog W0 g ([enc a]++caps) (.bool (q a))):
  ah prog W0 36 [.sl 54 (l.map enc),.fn g caps] (.bool (l.any q)):=by
 refine al [4] [] func36 rfl rfl ntmps36 rfl rfl (.bool _) λhs σ=>?_
 simp only[go_sem,simprocAttr]
 refine ak.fn (Uq enc hp l q g caps h) ?_
 simp only[go_sem,simprocAttr]
 exact ai jl
theorem Nh {α:Type}(enc:α→AV)(hp: ∀a,cY (enc a))(l:List α)(q:α→Bool)(g:FuncId)(caps:List AV)(h: ∀a∈l,ah prog W0 g ([enc a]++caps) (.bool (q a))):
  ah prog W0 182 [.sl 147 (l.map enc),.fn g caps] (.bool (l.any q)):=by
 refine al [4] [] func182 rfl rfl ntmps182 rfl rfl (.bool _) λhs σ=>?_
 simp only[go_sem,simprocAttr]
 refine ak.fn (Pw enc hp l q g caps h) ?_
 simp only[go_sem,simprocAttr]
 exact ai jl
theorem H9 {α:Type}(enc:α→AV)(hp: ∀a,cY (enc a))(l:List α)(q:α→Bool)(g:FuncId)(caps:List AV)(h: ∀a∈l,ah prog W0 g ([enc a]++caps) (.bool (q a))):
  ah prog W0 201 [.sl 72 (l.map enc),.fn g caps] (.bool (l.any q)):=by
 refine al [4] [] func201 rfl rfl ntmps201 rfl rfl (.bool _) λhs σ=>?_
 simp only[go_sem,simprocAttr]
 refine ak.fn (FL enc hp l q g caps h) ?_
 simp only[go_sem,simprocAttr]
 exact ai jl
theorem PF (l:List (List UInt8))(s:List UInt8):ah prog W0 205 [.sl 9 (l.map .str),.str s] (.int .i64 (eR (λx=>s==x) l)):=by
 refine al [4] [] func205 rfl rfl ntmps205 rfl rfl (.int _ _) λhs σ=>?_
 have hl:=(aC (hs _ (List.mem_cons_self ..))).1
 simp only[go_sem,simprocAttr]
 refine ae.upto [0,1,7] (.of (by kernel_rfl)) l.length (λi A=>A.env 8= .int .i64 i∧A.st=σ∧ ∀a∈l.take i,(s==a)=false) 0 (Nat.zero_le _) ?_ λi B hi ⟨h8,hst,hI⟩=>?_
 ·simp only[go_sem,simprocAttr]
  all_goals simp
 simp only[go_sem,simprocAttr,h8,hst,List.length_map]
 refine⟨λhc=>⟨hc,?_⟩,λhc=>aw ?_⟩
 ·obtain⟨a,ha⟩:=get_some hc
  simp only[an ha]
  simp only[go_sem,simprocAttr,h8,hst]
  refine⟨λhq=>aw (eQ (q:=λx=>s==x) ha (by simpa using hq) hI).symm,λhq=>⟨hc,af hc hl,?_⟩⟩
  rw[aj ha]
  intro b hb
  rcases List.mem_append.1 hb with hb|hb
  ·simpa using hI b hb
  ·rw[List.mem_singleton.1 hb];simpa using hq
 ·rw[dp]
  rwa [List.take_of_length_le hc]at hI
theorem No (l:List (List UInt8))(s:List UInt8):ah prog W0 150 [.sl 9 (l.map .str),.str s] (.bool (l.any λx=>s==x)):=by
 refine al [4] [] func150 rfl rfl ntmps150 rfl rfl (.bool _) λhs σ=>?_
 simp only[go_sem,simprocAttr]
 refine ak.fn (PF l s) ?_
 simp only[go_sem,simprocAttr]
 exact ai jl
theorem GG (a:Int):ah prog W0 251 [.int .i64 a] (.bool false):=by
 refine al [2] [] func251 rfl rfl ntmps251 rfl rfl (.bool _) λhs σ=>?_
 simp only[go_sem,simprocAttr]
 exact ai (by simp)
theorem Iy (a b:Int):ah prog W0 226 [.int .i64 a,.int .i64 b] (.int .i64 (sgn a b)):=by
 refine al [4] [] func226 rfl rfl ntmps226 rfl rfl (.int _ _) λhs σ=>?_
 simp only[go_sem,simprocAttr]
 refine ak.fn (GG a) ?_
 simp only[go_sem,simprocAttr]
 refine ak.fn (GG b) ?_
 simp only[go_sem,simprocAttr]
 refine⟨λh=>aw (by simp[sgn,h]),λh=>⟨λh'=>aw (by simp[sgn,h'];omega),λh'=>aw (by rw[sgn,if_neg (by omega),if_neg (by omega)])⟩⟩
theorem Dc (s:List UInt8):ah prog W0 156 [.str s] (.bool false):=by
 refine al [2] [] func156 rfl rfl ntmps156 rfl rfl (.bool _) λhs σ=>?_
 simp only[go_sem,simprocAttr]
theorem xz (a b:List UInt8):ah prog W0 95 [.str a,.str b] (.int .i64 (fR a b)):=by
 refine al [4] [] func95 rfl rfl ntmps95 rfl rfl (.int _ _) λhs σ=>?_
 simp only[go_sem,simprocAttr]
 refine ak.fn (Dc a) ?_
 simp only[go_sem,simprocAttr]
 refine ak.fn (Dc b) ?_
 simp only[go_sem,simprocAttr]
 refine⟨λh=>aw (by simp[fR,h]),λh=>⟨λh'=>aw (by simp at h';simp[fR,h,h'.2]),λh'=>aw ?_⟩⟩
 rw[fR,h]
 simp at h' ⊢
 rcases h' with h'|h'
 ·rw[h]at h';cases h'
 ·exact h'
theorem Ht (l:List Int):ah prog W0 94 [.sl 3 (l.map (.int .i64))] (.int .i64 (orL l)):=by
 refine al [2] [] func94 rfl rfl ntmps94 rfl rfl (.int _ _) λhs σ=>?_
 have hl:=(aC (hs _ (List.mem_cons_self ..))).1
 simp only[go_sem,simprocAttr]
 refine ae.upto [3,6,7] (.of (by kernel_rfl)) l.length (λi A=>A.env 8= .int .i64 i∧A.st=σ∧orL (l.drop i)=orL l) 0 (Nat.zero_le _) ?_ λi B hi ⟨h8,hst,hI⟩=>?_
 ·simp only[go_sem,simprocAttr]
  all_goals simp
 simp only[go_sem,simprocAttr,h8,hst,List.length_map]
 refine⟨λhc=>⟨hc,?_⟩,λhc=>aw ?_⟩
 ·obtain⟨a,ha⟩:=get_some hc
  obtain⟨hlt,hae⟩:=List.getElem?_eq_some_iff.1 ha
  simp only[an ha]
  simp only[go_sem,simprocAttr,h8,hst]
  rw[List.drop_eq_getElem_cons hlt,hae]at hI
  refine⟨λhq=>aw (by rw[←hI,orL,if_pos hq]),λhq=>⟨hc,af hc hl,?_⟩⟩
  rw[←hI,orL,if_neg (by simpa using hq)]
 ·rw[List.drop_eq_nil_of_le hc]at hI
  exact hI
theorem yz (s:List UInt8)(c:UInt8):ah prog W0 277 [.str s,.int .u8 c.toNat] (.int .i64 (aT c s)):=by
 refine OS (e:=Extern.BytealgIndexByte.indexByte) func277 (by kernel_rfl) (by kernel_rfl) (by kernel_rfl) (by kernel_rfl) λw C vs hl hv=>?_
 obtain⟨x,y,rfl⟩: ∃x y,vs=[x,y]:=by
  match vs,hl with
  |[x,y],_=>exact⟨x,y,rfl⟩
 obtain⟨hx,_⟩:=(hv 0 _ x rfl rfl).ij
 have hy:=(hv 1 _ y rfl rfl).cR
 subst hx hy
 refine⟨_,Lib.run_indexByteString _ _ w,?_⟩
 have e:Lib.indexByte s (c.toNat:Int).toNat.toUInt8=aT c s:=by rw[show(c.toNat:Int).toNat.toUInt8=c by simp];exact pQ s c
 rw[show(ByteArray.mk s.toArray).data.toList=s from rfl,e]
 exact .one rfl (.int _ _)
theorem xi (s:List UInt8)(c:UInt8):ah prog W0 271 [.str s,.int .u8 c.toNat] (.int .i64 (aT c s)):=by
 refine al [4] [] func271 rfl rfl ntmps271 rfl rfl (.int _ _) λhs σ=>?_
 simp only[go_sem,simprocAttr]
 refine ak.fn (yz s c) ?_
 simp only[go_sem,simprocAttr]
theorem yM (s:List UInt8)(c:UInt8):ah prog W0 261 [.str s,.str [c]] (.int .i64 (aT c s)):=by
 refine al [4] [] func261 rfl rfl ntmps261 rfl rfl (.int _ _) λhs σ=>?_
 simp only[go_sem,simprocAttr]
 refine⟨λh=>aw (by rw[←h];simp[aT,List.findIdx?_cons]),λh=>ak.fn (xi s c) ?_⟩
 simp only[go_sem,simprocAttr]
theorem GA (s:List UInt8)(c:UInt8):ah prog W0 262 [.str s,.str [c]] (.int .i64 (aT c s)):=by
 refine al [4] [] func262 rfl rfl ntmps262 rfl rfl (.int _ _) λhs σ=>?_
 simp only[go_sem,simprocAttr]
 refine ak.fn (yM s c) ?_
 simp only[go_sem,simprocAttr]
theorem AH (s:List UInt8)(c:UInt8):ah prog W0 237 [.str s,.str [c]] (.bool (s.contains c)):=by
 refine al [4] [] func237 rfl rfl ntmps237 rfl rfl (.bool _) λhs σ=>?_
 simp only[go_sem,simprocAttr]
 refine ak.fn (GA s c) ?_
 simp only[go_sem,simprocAttr]
 exact ai (Bf s c)
theorem O1 (s:List UInt8)(c:UInt8):ah prog W0 234 [.str s,.str [c]] (tM c s):=by
 refine al [4,5,6] [] func234 rfl rfl ntmps234 rfl rfl (wK c s) λhs σ=>?_
 have hl:s.length≤maxLen:=da (hs _ (by simp))
 simp only[go_sem,simprocAttr]
 refine ak.fn (yM s c) ?_
 simp only[go_sem,simprocAttr]
 refine⟨λh=>?_,λh=>?_⟩
 ·obtain⟨i,hi,hg,hlt⟩:=(im c s).resolve_left (λe=>by rw[e.1]at h;simp at h)
  rw[hi]
  have hw:IntKind.i64.wrap ((i:Int)+1)=((i+1:Nat):Int):=ia hlt hl
  simp only[go_sem,simprocAttr,hw]
  refine⟨.of (by kernel_rfl),by omega,by omega,?_⟩
  rw[tM,KL,GX,hi,if_pos (by omega),if_pos (by omega),Int.toNat_natCast,decide_eq_true (by omega)]
  exact .refl _
 ·have h:=h
  simp at h
  rw[tM,KL,GX,if_neg (by omega),if_neg (by omega),decide_eq_false (by omega)]
  exact .refl _
theorem NC (s:List UInt8)(c:UInt8):ah prog W0 196 [.str s,.str [c]] (tM c s):=by
 refine al [4,5,6] [] func196 rfl rfl ntmps196 rfl rfl (wK c s) λhs σ=>?_
 simp only[go_sem,simprocAttr]
 refine ak.fn (O1 s c) ?_
 simp only[go_sem,simprocAttr,tM]
theorem qX (s:List UInt8)(c:UInt8):ah prog W0 235 [.str s,.int .u8 c.toNat] (.int .i64 (lastOf c s)):=by
 refine al [4] [] func235 rfl rfl ntmps235 rfl rfl (.int _ _) λhs σ=>?_
 have hsl:s.length≤9223372036854775807:=da (hs _ (by simp))
 simp only[go_sem,simprocAttr]
 refine ae.cu [0,1] (.of (by kernel_rfl)) (λk A=>A.env 5= .int .i64 ((k:Int)-1)∧A.st=σ∧k≤s.length∧lastOf c s=jW c s k) s.length ?_ λk B ⟨h5,hst,hk,hI⟩=>?_
 ·simp only[go_sem,simprocAttr]
  exact⟨by rw[aF (by omega)],rfl⟩
 simp only[go_sem,simprocAttr,h5,hst]
 refine⟨λhc=>?_,λhc=>?_⟩
 ·obtain⟨k,rfl⟩: ∃j,k=j+1:=⟨k-1,by omega⟩
  have e:(((k+1:Nat):Int)-1)=(k:Int):=by omega
  simp only[go_sem,simprocAttr,e]
  obtain⟨x,hx⟩:=get_some (show k<s.length by omega)
  simp only[hx,Option.getD_some]
  refine⟨by omega,λh=>aw ?_,λh=>.here k (by omega) ?_⟩
  ·rw[hI,jW,if_pos (by rw[hx];congr 1)]
  ·simp only[go_sem,simprocAttr,hst]
   refine⟨by rw[aF (by omega)],by omega,?_⟩
   rw[hI,jW,if_neg (by rw[hx];simpa using h)]
 ·have:k=0:=by omega
  subst this
  exact aw (by rw[hI];rfl)
theorem qW (s:List UInt8)(c:UInt8):ah prog W0 197 [.str s,.int .u8 c.toNat] (.int .i64 (lastOf c s)):=by
 refine al [4] [] func197 rfl rfl ntmps197 rfl rfl (.int _ _) λhs σ=>?_
 simp only[go_sem,simprocAttr]
 refine ak.fn (qX s c) ?_
 simp only[go_sem,simprocAttr]
theorem sj (s:List UInt8)(c:UInt8):ah prog W0 279 [.str s,.int .u8 c.toNat] (.str (s.dropWhile (· ==c))):=by
 refine al [4] [] func279 rfl rfl ntmps279 rfl rfl (.str _) λhs σ=>?_
 simp only[go_sem,simprocAttr]
 refine ae.cu [1] (.of (by kernel_rfl)) (λk A=>∃ x,A.env 0= .str x∧A.st=σ∧k=x.length∧x.dropWhile (· ==c)=s.dropWhile (· ==c)) s.length ⟨s,?_⟩ λk B ⟨x,h0,hst,hk,hI⟩=>?_
 ·simp only[go_sem,simprocAttr]
 cases x with
 |nil=>
  simp only[go_sem,simprocAttr,h0,hst]
  exact fG hI
 |cons d r=>
  simp only[go_sem,simprocAttr,h0,hst]
  refine⟨λh=>.here r.length (by simp[hk]) ⟨r,?_⟩,λh=>fG ?_⟩
  ·simp only[go_sem,simprocAttr,hst]
   rw[←hI,List.dropWhile_cons,if_pos (by have h:=h;simp at h ⊢;exact UInt8.toNat_inj.1 (by omega))]
  ·rw[←hI,List.dropWhile_cons,if_neg (by have h:=h;simp at h ⊢;intro e;subst e;exact h rfl)]
theorem yN (s:List UInt8)(c:UInt8)(hc:c.toNat<128):ah prog W0 275 [.str s,.str [c]] (.str (s.dropWhile (· ==c))):=by
 refine al [4] [] func275 rfl rfl ntmps275 rfl rfl (.str _) λhs σ=>?_
 cases s with
 |nil=>simp only[go_sem,simprocAttr];exact .refl _
 |cons d r=>
  have hc':((c.toNat:Int)<128):=by omega
  simp only[go_sem,simprocAttr,hc']
  refine ak.fn (sj (d::r) c) ?_
  simp only[go_sem,simprocAttr]
end Go.Proofs.Tryz
end
section
namespace Go.Av
def An (c:UInt8):Int:=if c.toNat=126 then-1 else if cP c then c.toNat else c.toNat+256
def rkP :List UInt8→Int
 |[]=>0
 |c::_=>if aK c then 0 else An c
theorem Bp {c:UInt8}(h:cP c=true):65≤c.toNat∧c.toNat≤122:=by
 simp only[cP,ja,Bool.or_eq_true,Bool.and_eq_true,decide_eq_true_eq]at h
 omega
theorem nF (c:UInt8)(h:aK c=false):(rk [c]= -1∧rkP [c]= -1∧c.toNat=126)∨(rk [c]=1+c.toNat∧rkP [c]=c.toNat∧65≤c.toNat∧c.toNat≤122)∨(rk [c]=300+c.toNat∧rkP [c]=256+c.toNat∧True):=by
 simp only[rk,rkP,h,Bool.false_eq_true,if_false,sb,An]
 by_cases h1:c.toNat=126
 ·left;simp[h1]
 ·right
  simp only[h1,if_false]
  cases h2:cP c with
  |true=>left;simp only[if_true,true_and];exact Bp h2
  |false=>right;simp only[Bool.false_eq_true,if_false,true_and,and_true];omega
theorem Dy (a:List UInt8):(rk a=0∧rkP a=0)∨ ∃c r,a=c::r∧aK c=false∧rk a=rk [c]∧rkP a=rkP [c]:=by
 cases a with
 |nil=>exact .inl ⟨rfl,rfl⟩
 |cons c r=>
  cases h:aK c with
  |true=>left;simp[rk,rkP,h]
  |false=>right;exact⟨c,r,rfl,h,rfl,rfl⟩
theorem C5 (a b:List UInt8):sgn (rkP a) (rkP b)=sgn (rk a) (rk b):=by
 have key:(rkP a<rkP b↔rk a<rk b)∧(rkP a>rkP b↔rk a>rk b):=by
  rcases Dy a with⟨a1,a2⟩|⟨c,r,_,hc,a1,a2⟩<;>rcases Dy b with⟨b1,b2⟩|⟨d,r',_,hd,b1,b2⟩
  ·rw[a1,a2,b1,b2];simp
  ·rcases nF d hd with h|h|h<;>rw[a1,a2,b1,b2,h.1,h.2.1]<;>omega
  ·rcases nF c hc with h|h|h<;>rw[a1,a2,b1,b2,h.1,h.2.1]<;>omega
  ·have hc8:=c.toNat_lt
   have hd8:=d.toNat_lt
   rcases nF c hc with h|h|h<;>rcases nF d hd with h'|h'|h'<;>rw[a1,a2,b1,b2,h.1,h.2.1,h'.1,h'.2.1]<;>omega
 unfold sgn
 simp only[key.1,key.2]
theorem yR {a b:Int}:sgn a b=0↔a=b:=⟨oh,λh=>by rw[h,mR]⟩
theorem Bg (a b:List UInt8):rkP a=rkP b↔rk a=rk b:=by rw[←yR,C5,yR]
theorem tp (a:List UInt8):rkP a=0↔rk a=0:=Bg a []
theorem AA {a:List UInt8}(h:rk a=0):bq a=a:=by
 cases a with
 |nil=>rfl
 |cons c r=>
  cases hd:aK c with
  |true=>simp[bq,hd]
  |false=>exact absurd h (by simp[rk,hd,IV])
theorem va {a:List UInt8}(h:rk a≠0):bq a.tail=bq a:=by
 obtain⟨c,r,rfl,hd⟩:=Ad h
 simp[bq,hd]
def eU (s:List UInt8):List UInt8:=(s.takeWhile aK).dropWhile (· ==48)
def iO (s:List UInt8):List UInt8:=s.dropWhile aK
theorem CV :aK 48=true:=by decide
theorem nB (s:List UInt8):eU s=(fI s).take (bm (fI s))∧iO s=(fI s).drop (bm (fI s)):=by
 have key: ∀s:List UInt8,s.takeWhile aK=s.take (bm s)∧s.dropWhile aK=s.drop (bm s):=λs=>by
  induction s with
  |nil=>exact⟨rfl,rfl⟩
  |cons c r ih=>
   cases h:aK c with
   |true=>
    have e:bm (c::r)=bm r+1:=by simp[bm,h]
    rw[e,List.takeWhile_cons,List.dropWhile_cons,if_pos h,if_pos h,List.take_succ_cons,List.drop_succ_cons,ih.1,ih.2]
    exact⟨rfl,rfl⟩
   |false=>
    have e:bm (c::r)=0:=by simp[bm,h]
    rw[e,List.takeWhile_cons,List.dropWhile_cons,h]
    exact⟨rfl,rfl⟩
 induction s with
 |nil=>exact⟨rfl,rfl⟩
 |cons c r ih=>
  by_cases h0:c=48
  ·subst h0
   have e1:fI (48::r)=fI r:=by simp[fI]
   rw[e1,←ih.1,←ih.2]
   refine⟨?_,?_⟩
   ·simp[eU,CV]
   ·simp[iO,CV]
  ·have e1:fI (c::r)=c::r:=by simp[fI,h0]
   rw[e1,←(key (c::r)).1,←(key (c::r)).2]
   refine⟨?_,rfl⟩
   unfold eU
   cases h:aK c with
   |true=>simp[List.takeWhile_cons,h,h0]
   |false=>simp[List.takeWhile_cons,h]
theorem yV (s:List UInt8):(s.take (bm s)).length=bm s:=by
 rw[List.length_take]
 have:=o9 s
 omega
theorem z6 : ∀(a b:List UInt8),a.length=b.length→fR a b=fy a b
 |[],[],_=>rfl
 |[],_::_,h=>by simp at h
 |_::_,[],h=>by simp at h
 |x::a,y::b,h=>by
  have ih:=z6 a b (by simpa using h)
  unfold fy
  by_cases hxy:x=y
  ·subst hxy
   rw[if_pos rfl,←ih]
   simp[fR,Op.bytesLess]
  ·rw[if_neg hxy]
   have hne:x.toNat≠y.toNat:=λe=>hxy (UInt8.toNat_inj.1 e)
   have hb:(x==y)=false:=by simpa using hxy
   simp only[fR,Op.bytesLess,hb,Bool.false_and,Bool.or_false,List.cons.injEq,hxy,false_and,if_false,decide_eq_true_eq,UInt8.lt_iff_toNat_lt,sgn]
   by_cases hl:x.toNat<y.toNat
   ·rw[if_pos hl,if_pos (by omega)]
   ·rw[if_neg hl,if_neg (by omega),if_pos (by omega)]
def xm (x y:List UInt8):Int:=if (eU x).length≠(eU y).length then sgn (eU x).length (eU y).length else fR (eU x) (eU y)
theorem A8 (s:List UInt8):(iO s).length≤s.length:=fp s
theorem oq {a b:List UInt8}(h: ¬(a=[]∧b=[])):bj a b=if bU a b≠0 then bU a b else if xm (bq a) (bq b)≠0 then xm (bq a) (bq b)else bj (iO (bq a)) (iO (bq b)):=by
 rw[bj,dif_neg h]
 split
 ·rfl
 ·have ha:=nB (bq a)
  have hb:=nB (bq b)
  have la:(eU (bq a)).length=bm (aL a):=by rw[ha.1];exact yV _
  have lb:(eU (bq b)).length=bm (aL b):=by rw[hb.1];exact yV _
  have e1:(aL a).take (bm (aL a))=eU (bq a):=ha.1.symm
  have e2:(aL b).take (bm (aL b))=eU (bq b):=hb.1.symm
  have e3:(aL a).drop (bm (aL a))=iO (bq a):=ha.2.symm
  have e4:(aL b).drop (bm (aL b))=iO (bq b):=hb.2.symm
  rw[e1,e2,e3,e4,←la,←lb]
  by_cases hl:(eU (bq a)).length=(eU (bq b)).length
  ·have e:xm (bq a) (bq b)=fy (eU (bq a)) (eU (bq b)):=by rw[xm,if_neg (by simp[hl]),z6 _ _ hl]
   rw[if_neg (by simp[hl]),e]
  ·have:sgn ((eU (bq a)).length:Int) (eU (bq b)).length≠0:=λe=>hl (by have:=oh e;omega)
   have e:xm (bq a) (bq b)=sgn ((eU (bq a)).length:Int) (eU (bq b)).length:=by rw[xm,if_pos hl]
   rw[if_pos (by simpa using hl),e,if_pos this]
theorem Bv {a b:List UInt8}(h: ¬(a=[]∧b=[])):(iO (bq a)).length+(iO (bq b)).length<a.length+b.length:=by
 rw[(nB (bq a)).2,(nB (bq b)).2]
 exact uP h
def fB :Option (List UInt8×List UInt8×List UInt8)→AV
 |none=>.tup [.str [],.str [],.str [],.int .i64 3]
 |some (e,u,r)=>.tup [.str e,.str u,.str r,.int .i64 0]
theorem BJ (v:Option (List UInt8×List UInt8×List UInt8)):aW 0 (fB v):=by
 cases v<;>refine .tup λx hx=>?_<;>simp at hx<;>rcases hx with rfl|rfl|rfl|rfl<;>first|exact .str _|exact .int _ _
def ofV (beside:List UInt8)(s:List UInt8):Bool:=s.all λc=>aK c||cP c||beside.contains c
theorem KF (s:List UInt8):ofV [43,46,126] s=s.all rW:=by
 unfold ofV
 congr 1
 funext c
 have h: ∀n:Nat,n<256→((c==(n.toUInt8))=((c.toNat:Int)==(n:Int))):=λn hn=>by
  rw[Bool.eq_iff_iff]
  simp only[beq_iff_eq]
  constructor
  ·intro e;subst e;simp[Nat.mod_eq_of_lt hn]
  ·intro e;apply UInt8.toNat_inj.1;simp[Nat.mod_eq_of_lt hn];omega
 have h1:=h 43 (by omega)
 have h2:=h 46 (by omega)
 have h3:=h 126 (by omega)
 simp only[List.contains_cons,List.contains_nil,Bool.or_false,rW]
 rw[show(43:UInt8)=(43:Nat).toUInt8 from rfl,show(46:UInt8)=(46:Nat).toUInt8 from rfl,show(126:UInt8)=(126:Nat).toUInt8 from rfl,h1,h2,h3]
 cases aK c<;>cases cP c<;>simp[Bool.or_assoc]
theorem Nj (s:List UInt8):ofV [43,46,126,45,58] s=s.all yI:=by
 unfold ofV
 congr 1
 funext c
 have h: ∀n:Nat,n<256→((c==(n.toUInt8))=((c.toNat:Int)==(n:Int))):=λn hn=>by
  rw[Bool.eq_iff_iff]
  simp only[beq_iff_eq]
  constructor
  ·intro e;subst e;simp[Nat.mod_eq_of_lt hn]
  ·intro e;apply UInt8.toNat_inj.1;simp[Nat.mod_eq_of_lt hn];omega
 have h1:=h 43 (by omega)
 have h2:=h 46 (by omega)
 have h3:=h 126 (by omega)
 have h4:=h 45 (by omega)
 have h5:=h 58 (by omega)
 simp only[List.contains_cons,List.contains_nil,Bool.or_false,yI]
 rw[show(43:UInt8)=(43:Nat).toUInt8 from rfl,show(46:UInt8)=(46:Nat).toUInt8 from rfl,show(126:UInt8)=(126:Nat).toUInt8 from rfl,show(45:UInt8)=(45:Nat).toUInt8 from rfl,show(58:UInt8)=(58:Nat).toUInt8 from rfl,h1,h2,h3,h4,h5]
 cases aK c<;>cases cP c<;>simp[Bool.or_assoc]
theorem Kz (s:List UInt8):eT s=if s.length=0∨48<s.length then none else
  (let et:=if 0≤aT 58 s then(s.take (aT 58 s).toNat,s.drop ((aT 58 s).toNat+1))else([48],s)
   match pZ et.2 with
   |none=>none
   |some (u,r)=>if (decide (1≤et.1.length)&&decide (et.1.length≤9)&&et.1.all aK)&&ofV [43,46,126] r&&fN u&&ofV [43,46,126,45,58] u then some (et.1,u,r)else none):=by
 rw[eT]
 split
 ·rfl
 simp only[rr,KF,Nj]
 by_cases hf:0≤aT 58 s
 ·simp only[hf,if_true]
  by_cases he:1≤(s.take (aT 58 s).toNat).length∧(s.take (aT 58 s).toNat).length≤9∧(s.take (aT 58 s).toNat).all aK=true
  ·simp only[he,and_self,if_true,decide_true,Bool.and_self,Bool.true_and]
   cases pZ (s.drop ((aT 58 s).toNat+1))with
   |none=>rfl
   |some ur=>
    obtain⟨u,r⟩:=ur
    simp only[Bool.and_right_comm]
  ·rw[if_neg he]
   have hb:(decide (1≤(s.take (aT 58 s).toNat).length)&&decide ((s.take (aT 58 s).toNat).length≤9)&&(s.take (aT 58 s).toNat).all aK)=false:=by
    cases hx:(decide (1≤(s.take (aT 58 s).toNat).length)&&decide ((s.take (aT 58 s).toNat).length≤9)&&(s.take (aT 58 s).toNat).all aK)with
    |false=>rfl
    |true=>
     simp only[Bool.and_eq_true,decide_eq_true_eq]at hx
     exact absurd ⟨hx.1.1,hx.1.2,hx.2⟩ he
   simp only[hb,Bool.false_and,Bool.false_eq_true,if_false]
   cases pZ (s.drop ((aT 58 s).toNat+1))with
   |none=>rfl
   |some ur=>rfl
 ·simp only[hf,if_false]
  have hb:(decide (1≤([48]:List UInt8).length)&&decide (([48]:List UInt8).length≤9)&&([48]:List UInt8).all aK)=true:=by decide
  simp only[hb,Bool.true_and]
  cases pZ s with
  |none=>rfl
  |some ur=>
   obtain⟨u,r⟩:=ur
   simp only[Bool.and_right_comm]
end Go.Av
end
section
namespace Go.Proofs.Tryz
open Go Go.Av
set_option maxRecDepth 10000
variable {W0 :World}
theorem DP (s:List UInt8):ah prog W0 264 [.str s] (.int .i64 (rkP s)):=by
 refine al [2] [] func264 rfl rfl ntmps264 rfl rfl (.int _ _) λhs σ=>?_
 cases s with
 |nil=>
  simp only[go_sem,simprocAttr]
  refine ay.fnG (λh=>by simp at h) (r:=.bool false) ?_
  simp only[go_sem,simprocAttr]
  exact .refl _
 |cons c r=>
  have h8:=c.toNat_lt
  simp only[go_sem,simprocAttr]
  refine ay.fnG (λ_=>pK c) ?_
  simp only[go_sem,simprocAttr]
  refine⟨λh=>aw (by simp[rkP,h]),λh=>⟨λh'=>aw ?_,λh'=>ak.fn (vJ c) ?_⟩⟩
  ·have:c.toNat=126:=by omega
   simp[rkP,h,An,this]
  simp only[go_sem,simprocAttr]
  have hn: ¬c.toNat=126:=by omega
  refine⟨λhl=>aw (by simp[rkP,h,An,hn,hl]),λhl=>aw ?_⟩
  rw[aF (by omega)]
  simp[rkP,h,An,hn,hl]
theorem xa (s:List UInt8):ah prog W0 265 [.str s] (.tup [.str (eU s),.str (iO s)]):=by
 refine al [2,3] [] func265 rfl rfl ntmps265 rfl rfl (.tup (by intro x hx;simp at hx;rcases hx with rfl|rfl<;>exact .str _)) λhs σ=>?_
 have hsl:s.length≤maxLen:=da (hs _ (by simp))
 simp only[go_sem,simprocAttr]
 refine ae.at [0] (.of (by kernel_rfl)) (λA=>∃ i:Nat,A.env 4= .int .i64 i∧A.st=σ∧i=bm s) ?_ λB ⟨i,h4,hst,hi⟩=>?_
 ·refine ae.upto [0] (.of (by kernel_rfl)) s.length (λi A=>A.env 4= .int .i64 i∧A.st=σ∧ ∀c∈s.take i,aK c=true) 0 (Nat.zero_le _) ?_ λi B hi ⟨h4,hst,hI⟩=>?_
  ·simp only[go_sem,simprocAttr]
   simp
  simp only[go_sem,simprocAttr,h4,hst]
  refine ay.fnG (λ_=>pK _) ?_
  simp only[go_sem,simprocAttr,h4,hst]
  refine⟨λh=>?_,λh=>⟨i,rfl,?_⟩⟩
  ·obtain⟨c,hc,hd⟩:=G4.1 h
   have hlt:=(List.getElem?_eq_some_iff.1 hc).1
   refine⟨hlt,af hlt hsl,λd hdm=>?_⟩
   rw[aj hc]at hdm
   rcases List.mem_append.1 hdm with hdm|hdm
   ·exact hI d hdm
   ·rw[List.mem_singleton.1 hdm];exact hd
  ·exact(DF hi hI (AI.1 h)).symm
 simp only[go_sem,simprocAttr,h4,hst]
 subst hi
 have hle:=o9 s
 refine⟨.of (by kernel_rfl),⟨Nat.zero_le _,hle⟩,?_⟩
 refine ay.fn (yN _ 48 (by decide)) ?_
 simp only[go_sem,simprocAttr,h4,hst]
 refine⟨hle,?_⟩
 have key: ∀s:List UInt8,s.takeWhile aK=s.take (bm s)∧s.dropWhile aK=s.drop (bm s):=λs=>by
  induction s with
  |nil=>exact⟨rfl,rfl⟩
  |cons c r ih=>
   cases h:aK c with
   |true=>
    have e:bm (c::r)=bm r+1:=by simp[bm,h]
    rw[e,List.takeWhile_cons,List.dropWhile_cons,if_pos h,if_pos h,List.take_succ_cons,List.drop_succ_cons,ih.1,ih.2]
    exact⟨rfl,rfl⟩
   |false=>
    have e:bm (c::r)=0:=by simp[bm,h]
    rw[e,List.takeWhile_cons,List.dropWhile_cons,h]
    exact⟨rfl,rfl⟩
 rw[eU,iO,(key s).1,(key s).2]
 exact .refl _
abbrev kB (x y:List UInt8):Option c9:=some (.cells 269 [.agg 269 [.str x,.str y]])
theorem G0 (σ:ab)(id:Nat)(a b:List UInt8)(hid:σ[id]?=some (kB a b))(hal:a.length≤maxLen)(hbl:b.length≤maxLen):
  bg prog W0 241 [.ptr 269 id 0 []] σ λr σ'=>r= .int .i64 (bU a b)∧ ∃x y,σ'=σ.set id (kB x y)∧(bU a b=0→x=bq a∧y=bq b):=by
 have hidl:id<σ.length:=(List.getElem?_eq_some_iff.1 hid).1
 refine cQ [2] [] func241 rfl rfl ntmps241 rfl rfl λhs=>?_
 simp only[go_sem,simprocAttr]
 refine ae.cu [0] (.of (by kernel_rfl)) (λk A=>∃ x y,A.st=σ.set id (kB x y)∧k=x.length+y.length∧bU x y=bU a b∧bq x=bq a∧bq y=bq b∧x.length≤maxLen∧y.length≤maxLen) (a.length+b.length) ⟨a,b,?_,rfl,rfl,rfl,rfl,hal,hbl⟩ λk B ⟨x,y,hst,hk,hI,hx,hy,hxl,hyl⟩=>?_
 ·simp only[go_sem,simprocAttr]
  exact(gz hid).symm
 simp only[go_sem,simprocAttr,hst,bO hidl]
 refine⟨.of (by kernel_rfl),ay.fn (DP x) ?_⟩
 simp only[go_sem,simprocAttr,hst,bO hidl]
 refine ay.fn (DP y) ?_
 simp only[go_sem,simprocAttr,hst,bO hidl]
 refine⟨λh=>ak.fn (Iy _ _) ?_,λh=>⟨λh0=>bV.ret ?_,λh0=>?_⟩⟩
 ·simp only[go_sem,simprocAttr,hst,bO hidl]
  refine bV.ret ?_
  simp only[go_sem,simprocAttr,hst]
  have hne:rk x≠rk y:=λe=>h ((Bg x y).2 e)
  refine⟨_,.refl _,by simp,by rw[←hI,dI hne,C5],x,y,rfl,λh0=>?_⟩
  rw[←hI,dI hne]at h0
  exact absurd (oh h0) hne
 ·simp only[go_sem,simprocAttr,hst]
  have hx0:=(tp x).1 h0
  have hy0:rk y=0:=by rw[←tp,←h];exact h0
  refine⟨_,.refl _,by simp,by rw[←hI,fY hx0 hy0],x,y,rfl,λ_=>⟨by rw[←hx,AA hx0],by rw[←hy,AA hy0]⟩⟩
 ·have hx0:rk x≠0:=λe=>h0 ((tp x).2 e)
  have hxy:rk x=rk y:=(Bg x y).1 h
  have hy0:rk y≠0:=by rw[←hxy];exact hx0
  obtain⟨c,r,rfl,hc⟩:=Ad hx0
  obtain⟨d,r',rfl,hd⟩:=Ad hy0
  simp only[go_sem,simprocAttr,hst,bO hidl,dm hidl]
  refine⟨.of (by kernel_rfl),.here (r.length+r'.length) (by simp[hk];omega) ⟨r,r',?_⟩⟩
  simp only[go_sem,simprocAttr,hst,bO hidl,dm hidl]
  simp at hxl hyl
  exact⟨by rw[←hI,fW hx0 hxy];rfl,by rw[←hx];exact va hx0,by rw[←hy];exact va hy0,by omega,by omega⟩
theorem Cp (σ:ab)(id:Nat)(a b:List UInt8)(hid:σ[id]?=some (kB a b)):
  bg prog W0 242 [.ptr 269 id 0 []] σ λr σ'=>r= .int .i64 (xm a b)∧σ'=σ.set id (kB (iO a) (iO b)):=by
 have hidl:id<σ.length:=(List.getElem?_eq_some_iff.1 hid).1
 refine cQ [2] [] func242 rfl rfl ntmps242 rfl rfl λhs=>?_
 simp only[go_sem,simprocAttr,ax hid]
 refine ak.fn (xa a) ?_
 simp only[go_sem,simprocAttr,ax hid]
 refine ak.fn (xa b) ?_
 simp only[go_sem,simprocAttr,ax hid,aN hid,bO hidl,dm hidl]
 refine⟨λh=>ak.fn (Iy _ _) ?_,λh=>ak.fn (xz _ _) ?_⟩
 ·simp only[go_sem,simprocAttr]
  refine bV.ret ?_
  simp only[go_sem,simprocAttr]
  exact⟨_,.refl _,by simp,by rw[xm,if_pos h]⟩
 ·simp only[go_sem,simprocAttr]
  refine bV.ret ?_
  simp only[go_sem,simprocAttr]
  exact⟨_,.refl _,by simp,by rw[xm,if_neg (by simpa using h)]⟩
theorem xK (a b:List UInt8):ah prog W0 208 [.str a,.str b] (.int .i64 (bj a b)):=by
 refine al [4] [] func208 rfl rfl ntmps208 rfl rfl (.int _ _) λhs σ=>?_
 have hal:a.length≤maxLen:=da (hs (.str a) (by simp))
 have hbl:b.length≤maxLen:=da (hs (.str b) (by simp))
 simp only[go_sem,simprocAttr]
 refine ae.cu [5] (.of (by kernel_rfl)) (λk A=>∃ x y,A.st=σ++[kB x y]∧k=x.length+y.length∧bj x y=bj a b∧x.length≤maxLen∧y.length≤maxLen) (a.length+b.length) ⟨a,b,?_,rfl,rfl,hal,hbl⟩ λk B ⟨x,y,hst,hk,hI,hxl,hyl⟩=>?_
 ·simp only[go_sem,simprocAttr]
 simp only[go_sem,simprocAttr,hst]
 refine⟨λh=>?_,λh=>?_⟩
 case refine_2=>
  have:x=[]∧y=[]:=by cases x<;>cases y<;>simp at h ⊢
  exact aw (by rw[←hI,bj,dif_pos this])
 have hne: ¬(x=[]∧y=[]):=λ⟨e,e'⟩=>by subst e e';simp at h
 have hid:(σ++[kB x y])[σ.length]?=some (kB x y):=by simp
 refine ak.goes (by simp only[go_sem,simprocAttr,hst]) (G0 _ σ.length x y hid hxl hyl) λr σ' ⟨hr,x',y',hσ,hz⟩=>?_
 subst hr hσ
 simp only[go_sem,simprocAttr,hst]
 refine⟨λh1=>aw ?_,λh1=>?_⟩
 ·rw[←hI,oq hne,if_pos h1]
 obtain⟨rfl,rfl⟩:=hz h1
 have hid:(σ++[kB (bq x) (bq y)])[σ.length]?=some (kB (bq x) (bq y)):=by simp
 refine ak.goes (by simp only[go_sem,simprocAttr]) (Cp _ σ.length _ _ hid) λr σ' ⟨hr,hσ⟩=>?_
 subst hr hσ
 simp only[go_sem,simprocAttr,hst]
 have l1:=A8 (bq x)
 have l2:=A8 (bq y)
 have l3:=fp (p:=λc=>!aK c) x
 have l4:=fp (p:=λc=>!aK c) y
 refine⟨λh2=>aw ?_,λh2=>.here ((iO (bq x)).length+(iO (bq y)).length) (by rw[hk];exact Bv hne) ⟨iO (bq x),iO (bq y),?_⟩⟩
 ·rw[←hI,oq hne,if_neg (by simp[h1]),if_pos h2]
 ·simp only[go_sem,simprocAttr]
  unfold bq at *
  exact⟨by rw[←hI,oq hne,if_neg (by simp[h1]),if_neg (by unfold bq;simp[h2])];rfl,by omega,by omega⟩
theorem Mb (beside s:List UInt8)(hbs: ∀c∈beside,c.toNat≤126):ah prog W0 199 [.str s,.str beside] (.bool (ofV beside s)):=by
 refine al [4] [] func199 rfl rfl ntmps199 rfl rfl (.bool _) λhs σ=>?_
 simp only[go_sem,simprocAttr]
 refine ae.cu [1,8] (.of (by kernel_rfl)) (λk A=>∃ pos,A.st=σ++[some (.iter s pos)]∧k=s.length-pos∧pos≤s.length∧ofV beside (s.take pos)=true) s.length ⟨0,?_⟩ λk B ⟨pos,hst,hk,hp,hI⟩=>?_
 ·simp only[go_sem,simprocAttr]
  simp[ofV]
 simp only[go_sem,simprocAttr,hst]
 refine⟨λhlt=>?_,λhge=>?_⟩
 ·obtain⟨c,hc⟩:=get_some hlt
  have bad:(aK c||cP c||beside.contains c)=false→ofV beside s=false:=λhd=>by
   unfold ofV;exact all_false hc hd
  rcases Nat.lt_or_ge c.toNat 128 with h8|h8
  ·rw[mD hc h8]
   have hcv:=Jy c
   have hce:=Cs h8
   simp only[go_sem,simprocAttr,hcv,hce]
   refine ay.fnG (λ_=>pK c) ?_
   simp only[go_sem,simprocAttr,hcv,hce]
   refine ay.fnG (λ_=>vJ c) ?_
   simp only[go_sem,simprocAttr,hcv,hce]
   refine ay.fnG (λ_=>AH beside c) ?_
   simp only[go_sem,simprocAttr,hcv,hce]
   refine⟨λhb=>ai ?_,λhb=>.here (s.length-(pos+1)) (by omega) ⟨pos+1,?_⟩⟩
   ·refine(bad ?_).symm
    simp only[Bool.or_eq_true,decide_eq_true_eq,Bool.and_eq_true,Bool.not_eq_true']at hb
    rcases hb with hb|⟨⟨h1,h2⟩,h3⟩
    ·have h1:aK c=false:=by simp[aK];omega
     have h2:cP c=false:=by simp[cP,ja];omega
     have h3:beside.contains c=false:=by
      cases hx:beside.contains c with
      |false=>rfl
      |true=>have:=hbs c (by simpa using hx);omega
     simp only[h1,h2,h3,Bool.or_false]
    ·simp only[h1,h2,h3,Bool.or_false]
   ·simp only[go_sem,simprocAttr,hst]
    refine⟨by omega,mF hI hc ?_⟩
    simp at hb
    have hb2:=hb.2
    cases hd:aK c<;>cases hl:cP c<;>cases hx:beside.contains c<;>simp_all
  ·have:=qI hc h8
   have hd:decide ((126:Int)<((gO s pos).1:Int))=true:=decide_eq_true (by omega)
   simp only[go_sem,simprocAttr,hd]
   refine ay.fnG (λh=>by simp at h) (r:=.bool false) ?_
   simp only[go_sem,simprocAttr,hd]
   refine ay.fnG (λh=>by simp at h) (r:=.bool false) ?_
   simp only[go_sem,simprocAttr,hd]
   refine ay.fnG (λh=>by simp at h) (r:=.bool false) ?_
   simp only[go_sem,simprocAttr,hd]
   refine ai (bad ?_).symm
   have h1:aK c=false:=by simp[aK];omega
   have h2:cP c=false:=by simp[cP,ja];omega
   have h3:beside.contains c=false:=by
    cases hx:beside.contains c with
    |false=>rfl
    |true=>have:=hbs c (by simpa using hx);omega
   simp only[h1,h2,h3,Bool.or_false]
 ·have:pos=s.length:=by omega
  rw[this,List.take_length]at hI
  exact ai hI.symm
theorem jR (s:List UInt8):ah prog W0 142 [.str s] (fB (eT s)):=by
 refine al [2,3,4,5] [] func142 rfl rfl ntmps142 rfl rfl (BJ _) λhs σ=>?_
 have hsl:s.length≤maxLen:=da (hs _ (by simp))
 have none_end:eT s=none→cT (AV.tup [.str [],.str [],.str [],.int .i64 3]) (fB (eT s)):=λe=>by rw[e];exact .refl _
 simp only[go_sem,simprocAttr]
 refine⟨λh=>none_end ?_,λh=>?_⟩
 ·have h':s.length=0∨48<s.length:=by
   simp only[Bool.or_eq_true,beq_iff_eq,decide_eq_true_eq]at h
   rcases h with h|h
   ·left;rw[h];rfl
   ·right;omega
  rw[eT,if_pos h']
 have hlen: ¬(s.length=0∨48<s.length):=by
  simp only[Bool.or_eq_false_iff,beq_eq_false_iff_ne,decide_eq_false_iff_not]at h
  rintro(h1|h1)
  ·exact h.1 (List.length_eq_zero_iff.1 h1)
  ·exact h.2 (by omega)
 refine ak.fn (NC s 58) ?_
 simp only[go_sem,simprocAttr,tM]
 have hv: ∀e t:List UInt8,(e,t)=(if 0≤aT 58 s then(s.take (aT 58 s).toNat,s.drop ((aT 58 s).toNat+1))else([48],s))→eT s=(match pZ t with
   |none=>none
   |some (u,r)=>if (decide (1≤e.length)&&decide (e.length≤9)&&e.all aK)&&ofV [43,46,126] r&&fN u&&ofV [43,46,126,45,58] u then some (e,u,r)else none):=λe t he=>by
  rw[Kz,if_neg hlen,←he]<;>rfl
 refine cp.at [4] (by kernel_rfl) (λA=>∃ e t,A.env 2= .str e∧A.env 6= .str t∧A.st=σ∧t.length≤s.length∧(e,t)=(if 0≤aT 58 s then(s.take (aT 58 s).toNat,s.drop ((aT 58 s).toNat+1))else([48],s))) (λhf=>?_) (λhf=>?_) λB ⟨e,t,h2,h6,hst,htl,het⟩=>?_
 ·have hf:0≤aT 58 s:=by simpa using hf
  simp only[go_sem,simprocAttr]
  exact⟨_,_,rfl,rfl,by rw[GX,if_pos hf];simp,by rw[KL,GX,if_pos hf,if_pos hf,if_pos hf]⟩
 ·have hf: ¬0≤aT 58 s:=by simpa using hf
  simp only[go_sem,simprocAttr]
  exact⟨_,_,rfl,rfl,Nat.le_refl _,by rw[if_neg hf]⟩
 have hv:=hv e t het
 simp only[go_sem,simprocAttr,h2,h6,hst]
 refine ak.fn (qW t 45) ?_
 simp only[go_sem,simprocAttr,h2,h6,hst]
 refine cp.at [] (by kernel_rfl) (λA=>∃ u r,pZ t=some (u,r)∧A.env 2= .str e∧A.env 3= .str u∧A.env 4= .str r∧A.st=σ) (λhf=>?_) (λhf=>?_) λB ⟨u,r,hrv,h2,h3,h4,hst⟩=>?_
 ·obtain⟨i,hi,hgi,hlt⟩:=(pf 45 t).resolve_left (λe=>by rw[e.1]at hf;simp at hf)
  rw[hi]
  have hw:IntKind.i64.wrap ((i:Int)+1)=((i+1:Nat):Int):=ia hlt (by omega)
  have hrv:pZ t=if t.drop (i+1)=[]then none else some (t.take i,t.drop (i+1)):=by
   rw[pZ,hi,if_pos (by omega)];rfl
  simp only[go_sem,simprocAttr,hw,h2,h6,hst]
  refine⟨.of (by kernel_rfl),by omega,by omega,λhb=>none_end (by rw[hv];simp only[hrv,if_pos hb]),λhb=>⟨t.take i,t.drop (i+1),?_⟩⟩
  rw[hrv,if_neg hb]
  simp
 ·have hf': ¬(0≤lastOf 45 t):=by simpa using hf
  simp only[go_sem,simprocAttr,h2,h6,hst]
  exact⟨t,[],by simp[pZ,hf']⟩
 rw[hrv]at hv
 simp only at hv
 simp only[go_sem,simprocAttr,h2,h3,h4,hst]
 refine ak.fn (Bh e) ?_
 simp only[go_sem,simprocAttr,h2,h3,h4,hst]
 refine ay.fnG (λ_=>Mb [43,46,126] r (by decide)) ?_
 simp only[go_sem,simprocAttr,h2,h3,h4,hst]
 have fin: ∀b:Bool,b=(!((decide (1≤e.length)&&decide (e.length≤9)&&e.all aK)&&ofV [43,46,126] r&&fN u&&ofV [43,46,126,45,58] u))→(b=true→eT s=none)∧(b=false→eT s=some (e,u,r)):=λb hb=>by
  rw[hv]
  refine⟨λh=>if_neg ?_,λh=>if_pos ?_⟩
  ·rw[h]at hb
   intro hc
   rw[hc]at hb
   cases hb
  ·rw[h]at hb
   cases hc:(decide (1≤e.length)&&decide (e.length≤9)&&e.all aK)&&ofV [43,46,126] r&&fN u&&ofV [43,46,126,45,58] u with
   |true=>rfl
   |false=>rw[hc]at hb;cases hb
 cases u with
 |nil=>
  simp only[go_sem,simprocAttr,h2,h3,h4,hst]
  refine ay.fnG (λh=>by simp at h) (r:=.bool false) ?_
  simp only[go_sem,simprocAttr,h2,h3,h4,hst]
  refine ay.fnG (λh=>by simp at h) (r:=.bool false) ?_
  simp only[go_sem,simprocAttr,h2,h3,h4,hst]
  exact none_end ((fin true (by simp[fN])).1 rfl)
 |cons c u'=>
  simp only[go_sem,simprocAttr,h2,h3,h4,hst]
  refine ay.fnG (λ_=>pK c) ?_
  simp only[go_sem,simprocAttr,h2,h3,h4,hst]
  refine ay.fnG (λ_=>Mb [43,46,126,45,58] (c::u') (by decide)) ?_
  simp only[go_sem,simprocAttr,h2,h3,h4,hst]
  refine⟨λh=>none_end ((fin _ ?_).1 h),λh=>?_⟩
  ·simp only[fN]
   cases (decide (1≤e.length)&&decide (e.length≤9)&&e.all aK)<;>cases ofV [43,46,126] r<;>cases aK c<;>cases ofV [43,46,126,45,58] (c::u')<;>rfl
  ·rw[(fin _ (by
    simp only[fN]
    cases (decide (1≤e.length)&&decide (e.length≤9)&&e.all aK)<;>cases ofV [43,46,126] r<;>cases aK c<;>cases ofV [43,46,126,45,58] (c::u')<;>rfl)).2 h]
   exact .refl _
end Go.Proofs.Tryz
end
section
namespace Go.Proofs.Tryz
open Go Go.Av
set_option maxRecDepth 10000
variable {W0 :World}
def nQ (a b:List UInt8):AV:=.tup [.int .i64 (bs a b),.bool (bn a&&bn b)]
theorem Ex (a b:List UInt8):aW 0 (nQ a b):=by
 refine .tup λx hx=>?_
 simp at hx
 rcases hx with rfl|rfl
 ·exact .int _ _
 ·exact .bool _
theorem om (a b:List UInt8):ah prog W0 157 [.str a,.str b] (nQ a b):=by
 refine al [4,5] [] func157 rfl rfl ntmps157 rfl rfl (Ex _ _) λhs σ=>?_
 simp only[go_sem,simprocAttr]
 refine ak.fn (jR a) ?_
 cases h:eT a with
 |none=>
  simp only[go_sem,simprocAttr,fB]
  refine ak.fn (jR b) ?_
  cases h':eT b with
  |none=>simp only[go_sem,simprocAttr,fB];simp only[nQ,bs,bn,h,h'];exact .refl _
  |some v=>obtain⟨f,v,t⟩:=v;simp only[go_sem,simprocAttr,fB];simp only[nQ,bs,bn,h,h'];exact .refl _
 |some v=>
  obtain⟨e,u,r⟩:=v
  simp only[go_sem,simprocAttr,fB]
  refine ak.fn (jR b) ?_
  cases h':eT b with
  |none=>simp only[go_sem,simprocAttr,fB];simp only[nQ,bs,bn,h,h'];exact .refl _
  |some v=>
   obtain⟨f,v,t⟩:=v
   simp only[go_sem,simprocAttr,fB]
   refine ak.fn (xK e f) ?_
   simp only[go_sem,simprocAttr]
   refine ak.fn (xK u v) ?_
   simp only[go_sem,simprocAttr]
   refine ak.fn (xK r t) ?_
   simp only[go_sem,simprocAttr]
   refine⟨by decide,ak.fn ((Ht [bj e f,bj u v,bj r t]).cy (.cons (.lit _ _) .nil)) ?_⟩
   simp only[go_sem,simprocAttr]
   have:orL [bj e f,bj u v,bj r t]=bs a b:=by
    simp only[bs,h,h',orL]
    by_cases h1:bj e f=0
    ·by_cases h2:bj u v=0
     ·by_cases h3:bj r t=0
      ·simp[h1,h2,h3]
      ·simp[h1,h2,h3]
     ·simp[h1,h2]
    ·simp[h1]
   rw[this,nQ]
   simp only[bn,h,h']
   exact .refl _
theorem oZ (a b:List UInt8):ah prog W0 103 [.str a,.str b] (.bool (bb a b)):=by
 refine al [4] [] func103 rfl rfl ntmps103 rfl rfl (.bool _) λhs σ=>?_
 simp only[go_sem,simprocAttr]
 refine ak.fn (om a b) ?_
 simp only[go_sem,simprocAttr,nQ]
 exact ai (by rw[bb])
theorem A4 (rel:Int)(a b:List UInt8):ah prog W0 181 [.int .i64 rel,.str a,.str b] (.bool (eC rel a b)):=by
 refine al [6] [] func181 rfl rfl ntmps181 rfl rfl (.bool _) λhs σ=>?_
 simp only[go_sem,simprocAttr]
 refine⟨λh0=>ak.fn (jR a) ?_,λh0=>ak.fn (om a b) ?_⟩
 ·cases h:eT a with
  |none=>simp only[go_sem,simprocAttr,fB];exact ai (by rw[eC,if_pos h0,bn,h];rfl)
  |some v=>obtain⟨e,u,r⟩:=v;simp only[go_sem,simprocAttr,fB];exact ai (by rw[eC,if_pos h0,bn,h];rfl)
 simp only[go_sem,simprocAttr,nQ]
 refine⟨λhb=>ai (by rw[eC,if_neg h0,hb];rfl),λhb=>?_⟩
 have hh:eC rel a b=(if rel=1 then decide (bs a b<0)else if rel=2 then decide (bs a b≤0)else if rel=3 then bs a b==0
   else if rel=4 then decide (0≤bs a b)else if rel=5 then decide (0<bs a b)else false):=by rw[eC,if_neg h0,if_pos hb]
 refine⟨λh1=>ai (by rw[hh,if_pos h1]),λh1=>⟨λh2=>ai (by rw[hh,if_neg h1,if_pos h2]),λh2=>⟨λh3=>ai (by rw[hh,if_neg h1,if_neg h2,if_pos h3]),λh3=>⟨λh4=>ai (by rw[hh,if_neg h1,if_neg h2,if_neg h3,if_pos h4]),λh4=>⟨λh5=>ai (by rw[hh,if_neg h1,if_neg h2,if_neg h3,if_neg h4,if_pos h5]),λh5=>ai (by rw[hh,if_neg h1,if_neg h2,if_neg h3,if_neg h4,if_neg h5])⟩⟩⟩⟩⟩
theorem ye (s:List UInt8):ah prog W0 143 [.str s] (.bool (cW s)):=by
 refine al [2] [] func143 rfl rfl ntmps143 rfl rfl (.bool _) λhs σ=>?_
 have hsl:s.length≤maxLen:=da (hs _ (by simp))
 simp only[go_sem,simprocAttr]
 refine⟨λh=>ai ?_,λh=>?_⟩
 ·have:(decide (2≤s.length)&&decide (s.length≤24))=false:=by
   simp only[Bool.or_eq_true,decide_eq_true_eq]at h
   simp only[Bool.and_eq_false_iff,decide_eq_false_iff_not]
   omega
  rw[cW,this];rfl
 have hlen:(decide (2≤s.length)&&decide (s.length≤24))=true:=by
  simp only[Bool.or_eq_false_iff,decide_eq_false_iff_not]at h
  simp only[Bool.and_eq_true,decide_eq_true_eq]
  omega
 refine ae.cu [15] (.of (by kernel_rfl)) (λk A=>∃ pos,A.st=σ++[some (.iter s pos)]∧k=s.length-pos∧pos≤s.length∧ ∀j c,j<pos→s[j]?=some c→jb j c=true) s.length ⟨0,?_⟩ λk B ⟨pos,hst,hk,hp,hI⟩=>?_
 ·simp only[go_sem,simprocAttr]
  simp
 simp only[go_sem,simprocAttr,hst]
 refine⟨λhlt=>?_,λhge=>?_⟩
 ·obtain⟨c,hc⟩:=get_some hlt
  have bad:jb pos c=false→cW s=false:=λhd=>by
   rw[cW,nO hc hd,Bool.and_false]
  rcases Nat.lt_or_ge c.toNat 128 with h8|h8
  ·rw[mD hc h8]
   simp only[go_sem,simprocAttr]
   refine⟨λhb=>ai ?_,λhb=>.here (s.length-(pos+1)) (by omega) ⟨pos+1,?_⟩⟩
   ·refine(bad ?_).symm
    revert hb
    simp only[jb,ja,aK]
    simp
    omega
   ·simp only[go_sem,simprocAttr,hst]
    refine⟨by omega,λj d hj hd=>?_⟩
    rcases Nat.lt_succ_iff_lt_or_eq.1 hj with hj|rfl
    ·exact hI j d hj hd
    ·have e:d=c:=by rw[hd]at hc;exact Option.some.inj hc
     subst e
     revert hb
     simp only[jb,ja,aK]
     simp
     omega
  ·have:=qI hc h8
   refine⟨λhb=>ai (bad ?_).symm,λhb=>?_⟩
   ·simp only[jb,ja,aK]
    simp
    omega
   ·simp at hb
    omega
 ·have:pos=s.length:=by omega
  have:jm jb 0 s=true:=j3.2 λj c hj=>by rw[Nat.zero_add];exact hI j c (by have:=(List.getElem?_eq_some_iff.1 hj).1;omega) hj
  exact ai (by rw[cW,this,hlen];rfl)
theorem uJ (a:Atom):ah prog W0 180 [aS a] (.bool (cg a)):=by
 refine al [2] [1] func180 rfl rfl ntmps180 rfl rfl (.bool _) λhs σ=>?_
 simp only[go_sem,simprocAttr,aS]
 refine ak.fn (ye a.name) ?_
 simp only[go_sem,simprocAttr,aS]
 have low:(!cW a.name||decide (a.rel<0)||decide (5<a.rel))=true→cg a=false:=λh=>by
  unfold cg
  cases hn:cW a.name with
  |false=>rfl
  |true=>
   rw[hn]at h
   simp only[Bool.not_true,Bool.false_or,Bool.or_eq_true,decide_eq_true_eq]at h
   rw[if_neg (by omega)]
   have:(decide (1≤a.rel)&&decide (a.rel≤5))=false:=by
    simp only[Bool.and_eq_false_iff,decide_eq_false_iff_not];omega
   rw[this];rfl
 have high:(!cW a.name||decide (a.rel<0)||decide (5<a.rel))=false→cg a=if a.rel=0 then a.ver==[]else bn a.ver:=λh=>by
  simp only[Bool.or_eq_false_iff,Bool.not_eq_false',decide_eq_false_iff_not]at h
  rw[cg,h.1.1,Bool.true_and]
  split
  ·rfl
  ·have h1:decide (1≤a.rel)=true:=decide_eq_true (by omega)
   have h2:decide (a.rel≤5)=true:=decide_eq_true (by omega)
   rw[h1,h2];rfl
 refine⟨λh=>ai (low h).symm,λh=>⟨λh0=>ai (by rw[high h,if_pos h0]),λh0=>ak.fn (jR a.ver) ?_⟩⟩
 have hm:=high h
 rw[if_neg h0]at hm
 cases h:eT a.ver with
 |none=>simp only[go_sem,simprocAttr,fB];exact ai (by rw[hm,bn,h];rfl)
 |some v=>obtain⟨e,u,r⟩:=v;simp only[go_sem,simprocAttr,fB];exact ai (by rw[hm,bn,h];rfl)
end Go.Proofs.Tryz
end
section
namespace Go.Av
structure aP (σ st:ab)(v:AV)(e:TypeId)(xs:List AV):Prop where
 bld:Bld st v e xs
 ext:Ext σ st
 tok: ∀t,ff v=some t→σ.length≤t
theorem aP.nil {σ st:ab}(h:Ext σ st)(e:TypeId):aP σ st .aA e []:=⟨.inl ⟨rfl,rfl⟩,h,λt h=>by cases h⟩
theorem aP.app {σ st st':ab}{v v':AV}{e:TypeId}{xs zs:List AV}(h:aP σ st v e xs)(ha:App st v e zs v' st'):aP σ st' v' e zs:=by
 have hl:=h.ext.le
 refine⟨ha.bld,?_,λt ht=>?_⟩
 ·have hl':=ha.len
  refine List.ext_getElem? λi=>?_
  rw[List.getElem?_take]
  by_cases hi:i<σ.length
  ·rw[if_pos hi,ha.old i (by omega) (λe=>by have:=h.tok i e;omega)]
   have e:=congrArg (·[i]?) h.ext
   simpa[List.getElem?_take,hi]using e
  ·rw[if_neg hi,List.getElem?_eq_none (by omega)]
 ·rcases ha.tok with e|⟨u,e,hu⟩
  ·exact h.tok t (by rw[←e];exact ht)
  ·rw[e]at ht;cases ht;omega
theorem aP.more {σ st:ab}{v:AV}{e:TypeId}{xs:List AV}(h:aP σ st v e xs)(l:ab):aP σ (st++l) v e xs:=by
 refine⟨?_,h.ext.app l,h.tok⟩
 rcases h.bld with h1|h1|⟨t,h1,h2⟩
 ·exact .inl h1
 ·exact .inr (.inl h1)
 ·exact .inr (.inr ⟨t,h1,by rw[List.getElem?_append_left ((List.getElem?_eq_some_iff.1 h2).1)];exact h2⟩)
theorem aP.cy {σ st:ab}{v:AV}{e:TypeId}{xs:List AV}(h:aP σ st v e xs):cT v (.sl e xs):=by
 rcases h.bld with⟨rfl,rfl⟩|rfl|⟨t,rfl,_⟩
 ·exact .aA _
 ·exact .lit _ _
 ·exact .own _ _ _
theorem Ext.eq {σ st:ab}(h:Ext σ st):st=σ++st.drop σ.length:=by
 have:=List.take_append_drop σ.length st
 rw[h]at this
 exact this.symm
theorem Ext.trans {σ st st':ab}(h:Ext σ st)(h':Ext st st'):Ext σ st':=by
 rw[h'.eq];exact h.app _
theorem aP.on {σ st st':ab}{v:AV}{e:TypeId}{xs:List AV}(h:aP σ st v e xs)(h':Ext st st'):aP σ st' v e xs:=by
 rw[h'.eq];exact h.more _
theorem aP.len {σ st:ab}{v:AV}{e:TypeId}{xs:List AV}(h:aP σ st v e xs):mZ v= .int .i64 xs.length:=by
 rcases h.bld with⟨rfl,rfl⟩|rfl|⟨t,rfl,_⟩<;>rfl
theorem aP.fP {σ st:ab}{v:AV}{e:TypeId}{xs:List AV}(h:aP σ st v e xs)(P:Program)(t:TypeId):fP P t v=((elT P t).isSome=true):=by
 rcases h.bld with⟨rfl,rfl⟩|rfl|⟨t,rfl,_⟩<;>rfl
theorem aP.notM {σ st:ab}{v:AV}{e:TypeId}{xs:List AV}(h:aP σ st v e xs):cY v:=by
 rcases h.bld with⟨rfl,rfl⟩|rfl|⟨t,rfl,_⟩<;>trivial
theorem aP.ok {σ st:ab}{v:AV}{e:TypeId}{xs:List AV}(h:aP σ st v e xs)(g:Option Bool):okM g v=True:=bY h.notM
theorem aP.un {σ st:ab}{v:AV}{e:TypeId}{xs:List AV}(h:aP σ st v e xs):unm v=v:=cH h.notM
attribute [go_sem] List.range'_succ List.range'_zero
theorem Sub.U1 {α:Type}{f g:α→AV}{e:TypeId}(l:List α)(h: ∀a∈l,Sub (f a) (g a)):Sub (.sl e (l.map f)) (.sl e (l.map g)):=by
 refine .sls (by simp) λi x y hx hy=>?_
 rw[List.getElem?_map,Option.map_eq_some_iff]at hx hy
 obtain⟨a,ha,rfl⟩:=hx
 obtain⟨b,hb,rfl⟩:=hy
 rw[ha]at hb
 cases hb
 exact h a (List.mem_of_getElem? ha)
theorem fK.sl (st:ab)(e:TypeId)(ys:List AV):fK st (.sl e ys) e ys:=.inl rfl
theorem fK.lit (st:ab)(e:TypeId)(ys:List AV):fK st (.lit e ys) e ys:=.inl rfl
theorem ae.ats {P:Program}{W0:World}{n:Nat}{fz:List Nat}{A:aa}{c:Code}{id:Nat}{Q:Exit→aa→Prop}(ks:List Nat)(hks:Kept fz c .mk ks)(R:aa→Prop)(h:ae P W0 n fz c .mk (dX id (cd R Q)) .mk A)(hR: ∀B,R B→Q .normal (ei ks A B)):ae P W0 n fz c .mk (dX id Q) .mk A:=by
 have e:dX id (cd (Q .normal) Q)=dX id Q:=by
  funext e A
  cases e<;>rfl
 rw[←e]
 exact .at ks hks R h hR
def cA (l:List Clause):Int:=
 if 12<l.length∨l.any (λc=>decide (6<c.length))=true then 12 else if l.any (λc=>decide (c.length=0)||c.any λa=>!cg a)=true then 3 else 0
def single (l:List Atom):List Clause:=l.map λa=>[a]
def bN (p:gX):Atom:=⟨p.name,if p.ver=[]then 0 else 3,p.ver⟩
def aY (p:Pkg):Int:=if (!cW p.name|| !bn p.ver)=true then 3 else orL [cA p.pre,cA p.dep,cA p.rcm,cA (single p.con),cA (single p.brk),cA (single (p.dF.map bN))]
def du :List Pkg→List (List UInt8)→List (List UInt8)
 |[],acc=>acc
 |p::r,acc=>du r (if acc.any (λx=>p.name==x)then acc else acc++[p.name])
def dy (p q:Pkg):Bool:=q.name==p.name&&bb q.ver p.ver
def nN :List Pkg→List Pkg→Bool
 |_,[]=>false
 |bef,p::r=>bef.any (dy p)||nN (bef++[p]) r
def bz (l:List Pkg):Int:=
 if 24<l.length then 12 else if orL (l.map aY)≠0 then orL (l.map aY)else if nN [] l=true then 4 else if 10<(du l []).length then 12 else 0
end Go.Av
end
section
namespace Go.Proofs.Tryz
open Go Go.Av
set_option maxRecDepth 10000
variable {W0 :World}
def kf (a:Atom):AV:=.lit 81 [aS a]
theorem cY.atom (a:Atom):cY (aS a):=trivial
theorem cY.atoms (l:List Atom):cY (aB l):=trivial
@[go_sem] theorem M3 (g:Option Bool)(l:List Atom):okM g (aB l)=True:=eq_true trivial
@[go_sem] theorem Me (l:List Atom):unm (aB l)=aB l:=rfl
@[go_sem] theorem I7 (P:Program)(t:TypeId)(l:List Atom):bp P t (aB l)=cM P t:=rfl
@[go_sem] theorem Jg (g:Option Bool)(l:List Clause):okM g (av l)=True:=eq_true trivial
@[go_sem] theorem Ji (l:List Clause):unm (av l)=av l:=rfl
@[go_sem] theorem FI (P:Program)(t:TypeId)(l:List Clause):bp P t (av l)=cM P t:=rfl
@[go_sem] theorem Mk (g:Option Bool)(l:List gX):okM g (bW l)=True:=eq_true trivial
@[go_sem] theorem M1 (l:List gX):unm (bW l)=bW l:=rfl
@[go_sem] theorem Jf (P:Program)(t:TypeId)(l:List gX):bp P t (bW l)=cM P t:=rfl
@[go_sem] theorem O4 (g:Option Bool)(l:List Pkg):okM g (aH l)=True:=eq_true trivial
@[go_sem] theorem Oo (l:List Pkg):unm (aH l)=aH l:=rfl
@[go_sem] theorem Lu (P:Program)(t:TypeId)(l:List Pkg):bp P t (aH l)=cM P t:=rfl
theorem jF (l:List Atom):Sub (.sl 72 (l.map kf)) (av (single l)):=by
 rw[av,single,List.map_map]
 exact .U1 l λa _=>.lit _ _
theorem eE {α:Type}{f:α→AV}{e:TypeId}(h: ∀a,aW 0 (f a))(l:List α):aW 0 (.sl e (l.map f)):=.sl λx hx=>by
 obtain⟨a,_,rfl⟩:=List.mem_map.1 hx
 exact h a
theorem pj (a:Atom):aW 0 (aS a):=.agg λx hx=>by
 simp at hx
 rcases hx with rfl|rfl|rfl
 ·exact .str _
 ·exact .int _ _
 ·exact .str _
theorem nE (l:List Atom):aW 0 (aB l):=eE pj l
theorem dL (l:List Clause):aW 0 (av l):=eE nE l
theorem tu (a:gX):aW 0 (dc a):=.agg λx hx=>by
 simp at hx
 rcases hx with rfl|rfl<;>exact .str _
theorem DX (l:List gX):aW 0 (bW l):=eE tu l
theorem sE (p:Pkg):aW 0 (au p):=.agg λx hx=>by
 simp at hx
 rcases hx with rfl|rfl|rfl|rfl|rfl|rfl|rfl|rfl|rfl
 ·exact .str _
 ·exact .str _
 ·exact dL _
 ·exact dL _
 ·exact dL _
 ·exact nE _
 ·exact nE _
 ·exact DX _
 ·exact .bool _
theorem jY (l:List Pkg):aW 0 (aH l):=eE sE l
theorem uE (l:List Atom)(hl:l.length≤1048576):ah prog W0 144 [aB l] (av (single l)):=by
 refine al [2] [5] func144 rfl rfl ntmps144 rfl rfl (dL _) λhs σ=>?_
 simp only[go_sem,simprocAttr,aB]
 refine ae.at [6,7] (.of (by kernel_rfl)) (λA=>∃ v,A.env 3=v∧aP σ A.st v 72 (l.map kf)) ?_ λB ⟨v,h3,hb⟩=>?_
 ·refine ae.upto [6,7] (.of (by kernel_rfl)) l.length (λi A=>∃ v,A.env 3=v∧A.env 8= .int .i64 i∧aP σ A.st v 72 ((l.take i).map kf)) 0 (Nat.zero_le _) ?_ λi B hi ⟨v,h3,h8,hb⟩=>?_
  ·simp only[go_sem,simprocAttr]
   exact⟨_,rfl,aP.nil (.refl _) _⟩
  simp only[go_sem,simprocAttr,h3,h8,hb.ok,hb.un,List.length_map]
  refine⟨λhc=>⟨hc,?_⟩,λhc=>?_⟩
  ·obtain⟨a,ha⟩:=get_some hc
   simp only[an ha]
   simp only[go_sem,simprocAttr,aS,h3,h8,hb.ok,hb.un]
   refine bI.own 1048576 (by kernel_rfl) (hb.more _).bld (.lit _ _ _) (by simp;omega) λv' σ' ha'=>?_
   have hb':=(hb.more _).app ha'
   simp only[go_sem,simprocAttr,h3,h8,hb.ok,hb.un,hb'.ok,hb'.un]
   refine⟨hc,_,rfl,af hc (by rw[aq];omega),?_⟩
   rw[aj ha,List.map_append]
   exact hb'
  ·rw[List.take_of_length_le hc]at hb
   exact⟨_,rfl,hb⟩
 simp only[go_sem,simprocAttr,h3,hb.ok,hb.un]
 exact⟨hb.cy.trans (.sub (jF l)),hb.ext⟩
theorem oS (l:List Atom)(hl:l.length≤1048576):ah prog W0 123 [aB l] (av (single l)):=by
 refine al [2] [5] func123 rfl rfl ntmps123 rfl rfl (dL _) λhs σ=>?_
 simp only[go_sem,simprocAttr,aB]
 refine ae.at [6,7] (.of (by kernel_rfl)) (λA=>∃ v,A.env 3=v∧aP σ A.st v 72 (l.map kf)) ?_ λB ⟨v,h3,hb⟩=>?_
 ·refine ae.upto [6,7] (.of (by kernel_rfl)) l.length (λi A=>∃ v,A.env 3=v∧A.env 8= .int .i64 i∧aP σ A.st v 72 ((l.take i).map kf)) 0 (Nat.zero_le _) ?_ λi B hi ⟨v,h3,h8,hb⟩=>?_
  ·simp only[go_sem,simprocAttr]
   exact⟨_,rfl,aP.nil (.refl _) _⟩
  simp only[go_sem,simprocAttr,h3,h8,hb.ok,hb.un,List.length_map]
  refine⟨λhc=>⟨hc,?_⟩,λhc=>?_⟩
  ·obtain⟨a,ha⟩:=get_some hc
   simp only[an ha]
   simp only[go_sem,simprocAttr,aS,h3,h8,hb.ok,hb.un]
   refine bI.own 1048576 (by kernel_rfl) (hb.more _).bld (.lit _ _ _) (by simp;omega) λv' σ' ha'=>?_
   have hb':=(hb.more _).app ha'
   simp only[go_sem,simprocAttr,h3,h8,hb.ok,hb.un,hb'.ok,hb'.un]
   refine⟨hc,_,rfl,af hc (by rw[aq];omega),?_⟩
   rw[aj ha,List.map_append]
   exact hb'
  ·rw[List.take_of_length_le hc]at hb
   exact⟨_,rfl,hb⟩
 simp only[go_sem,simprocAttr,h3,hb.ok,hb.un]
 exact⟨hb.cy.trans (.sub (jF l)),hb.ext⟩
theorem EF (l:List Atom):Sub (.sl 81 (l.map aS)) (aB l):=.refl _
theorem zX (l:List gX)(hl:l.length≤1048576):ah prog W0 145 [bW l] (av (single (l.map bN))):=by
 refine al [2] [5] func145 rfl rfl ntmps145 rfl rfl (dL _) λhs σ=>?_
 simp only[go_sem,simprocAttr,bW]
 refine ae.at [7,8] (.of (by kernel_rfl)) (λA=>∃ v,A.env 3=v∧aP σ A.st v 72 (l.map λp=>kf (bN p))) ?_ λB ⟨v,h3,hb⟩=>?_
 ·refine ae.upto [7,8] (.of (by kernel_rfl)) l.length (λi A=>∃ v,A.env 3=v∧A.env 9= .int .i64 i∧aP σ A.st v 72 ((l.take i).map λp=>kf (bN p))) 0 (Nat.zero_le _) ?_ λi B hi ⟨v,h3,h8,hb⟩=>?_
  ·simp only[go_sem,simprocAttr]
   exact⟨_,rfl,aP.nil (.refl _) _⟩
  simp only[go_sem,simprocAttr,h3,h8,hb.ok,hb.un,List.length_map]
  refine⟨λhc=>⟨hc,?_⟩,λhc=>?_⟩
  ·obtain⟨a,ha⟩:=get_some hc
   simp only[an ha]
   simp only[go_sem,simprocAttr,dc,h3,h8,hb.ok,hb.un]
   refine cp.at [3,6,7,8,9] (by kernel_rfl) (λA=>A.st=B.st++[none,some (.cells 81 [aS (bN a)])]) (λh=>?_) (λh=>?_) λA hst=>?_
   ·simp only[go_sem,simprocAttr,aS,bN]
    simp only[Bool.not_eq_true',beq_eq_false_iff_ne]at h
    rw[if_neg h]
   ·simp only[go_sem,simprocAttr,aS,bN]
    simp only[Bool.not_eq_false',beq_iff_eq]at h
    rw[if_pos h]
   have hb2:aP σ A.st v 72 ((l.take i).map λp=>kf (bN p)):=by rw[hst];exact hb.more _
   simp only[go_sem,simprocAttr,h3,h8,hst,hb.ok,hb.un,aS]
   refine bI.own 1048576 (by kernel_rfl) hb2.bld (.lit _ _ _) (by simp;omega) λv' σ' ha'=>?_
   have hb':=hb2.app ha'
   simp only[go_sem,simprocAttr,h3,h8,hb.ok,hb.un,hb'.ok,hb'.un]
   refine⟨hc,_,rfl,af hc (by rw[aq];omega),?_⟩
   rw[aj ha,List.map_append]
   exact hb'
  ·rw[List.take_of_length_le hc]at hb
   exact⟨_,rfl,hb⟩
 simp only[go_sem,simprocAttr,h3,hb.ok,hb.un]
 refine⟨hb.cy.trans (.sub ?_),hb.ext⟩
 have:=jF (l.map bN)
 rw[List.map_map]at this
 exact this
theorem zv (l:List gX)(hl:l.length≤1048576):ah prog W0 125 [bW l] (aB (l.map bN)):=by
 refine al [2] [5] func125 rfl rfl ntmps125 rfl rfl (nE _) λhs σ=>?_
 simp only[go_sem,simprocAttr,bW]
 refine ae.at [7,8] (.of (by kernel_rfl)) (λA=>∃ v,A.env 3=v∧aP σ A.st v 81 (l.map λp=>aS (bN p))) ?_ λB ⟨v,h3,hb⟩=>?_
 ·refine ae.upto [7,8] (.of (by kernel_rfl)) l.length (λi A=>∃ v,A.env 3=v∧A.env 9= .int .i64 i∧aP σ A.st v 81 ((l.take i).map λp=>aS (bN p))) 0 (Nat.zero_le _) ?_ λi B hi ⟨v,h3,h8,hb⟩=>?_
  ·simp only[go_sem,simprocAttr]
   exact⟨_,rfl,aP.nil (.refl _) _⟩
  simp only[go_sem,simprocAttr,h3,h8,hb.ok,hb.un,List.length_map]
  refine⟨λhc=>⟨hc,?_⟩,λhc=>?_⟩
  ·obtain⟨a,ha⟩:=get_some hc
   simp only[an ha]
   simp only[go_sem,simprocAttr,dc,h3,h8,hb.ok,hb.un]
   refine cp.at [3,6,7,8,9] (by kernel_rfl) (λA=>A.st=B.st++[none,some (.cells 81 [aS (bN a)])]) (λh=>?_) (λh=>?_) λA hst=>?_
   ·simp only[go_sem,simprocAttr,aS,bN]
    simp only[Bool.not_eq_true',beq_eq_false_iff_ne]at h
    rw[if_neg h]
   ·simp only[go_sem,simprocAttr,aS,bN]
    simp only[Bool.not_eq_false',beq_iff_eq]at h
    rw[if_pos h]
   have hb2:aP σ A.st v 81 ((l.take i).map λp=>aS (bN p)):=by rw[hst];exact hb.more _
   simp only[go_sem,simprocAttr,h3,h8,hst,hb.ok,hb.un,aS]
   refine bI.own 1048576 (by kernel_rfl) hb2.bld (.lit _ _ _) (by simp;omega) λv' σ' ha'=>?_
   have hb':=hb2.app ha'
   simp only[go_sem,simprocAttr,h3,h8,hb.ok,hb.un,hb'.ok,hb'.un]
   refine⟨hc,_,rfl,af hc (by rw[aq];omega),?_⟩
   rw[aj ha,List.map_append]
   exact hb'
  ·rw[List.take_of_length_le hc]at hb
   exact⟨_,rfl,hb⟩
 simp only[go_sem,simprocAttr,h3,hb.ok,hb.un]
 refine⟨hb.cy.trans (.sub ?_),hb.ext⟩
 have:=EF (l.map bN)
 rw[List.map_map]at this
 exact this
theorem mN {α:Type}(l:List α)(n:Nat):(((n:Nat):Int)<(l.length:Int))↔n<l.length:=by omega
theorem J6 (c:Clause):ah prog W0 202 [aB c] (.bool (decide (6<c.length))):=by
 refine al [2] [] func202 rfl rfl ntmps202 rfl rfl (.bool _) λhs σ=>?_
 simp only[go_sem,simprocAttr,aB,List.length_map]
 exact ai (decide_eq_decide.2 (mN c 6))
theorem GQ (a:Atom):ah prog W0 204 [aS a] (.bool (!cg a)):=by
 refine al [2] [1] func204 rfl rfl ntmps204 rfl rfl (.bool _) λhs σ=>?_
 simp only[go_sem,simprocAttr,aS]
 refine ak.fn (uJ a) ?_
 simp only[go_sem,simprocAttr]
 done
theorem Gz (l:List Clause):ah prog W0 146 [av l] (.int .i64 (cA l)):=by
 refine al [2] [] func146 rfl rfl ntmps146 rfl rfl (.int _ _) λhs σ=>?_
 have hl:=(aC (hs _ (List.mem_cons_self ..))).1
 simp only[go_sem,simprocAttr,av,List.length_map]
 refine ay.fnG (λ_=>H9 aB cY.atoms l (λc=>decide (6<c.length)) _ [] (λa _=>J6 a)) ?_
 simp only[go_sem,simprocAttr]
 have e:(decide ((12:Int)<l.length)||l.any λc=>decide (6<c.length))=decide (12<l.length∨(l.any λc=>decide (6<c.length))=true):=by
  rw[Bool.decide_or,Bool.decide_eq_true];congr 1;exact decide_eq_decide.2 (mN l 12)
 rw[e]
 refine⟨λh=>aw (by rw[cA,if_pos (of_decide_eq_true h)]),λh=>?_⟩
 have hm:cA l=if l.any (λc=>decide (c.length=0)||c.any λa=>!cg a)=true then 3 else 0:=by rw[cA,if_neg (of_decide_eq_false h)]
 refine ae.upto [12,13] (.of (by kernel_rfl)) l.length (λi A=>A.env 14= .int .i64 i∧A.st=σ∧ ∀c∈l.take i,(decide (c.length=0)||c.any λa=>!cg a)=false) 0 (Nat.zero_le _) ?_ λi B hi ⟨h8,hst,hI⟩=>?_
 ·simp only[go_sem,simprocAttr]
  simp
 simp only[go_sem,simprocAttr,h8,hst,List.length_map]
 refine⟨λhc=>⟨hc,?_⟩,λhc=>?_⟩
 ·obtain⟨a,ha⟩:=get_some hc
  simp only[an ha]
  simp only[go_sem,simprocAttr,aB,h8,hst,List.length_map]
  refine ay.fnG (λ_=>Lk aS cY.atom a (λc=>!cg c) _ [] (λa _=>GQ a)) ?_
  simp only[go_sem,simprocAttr,h8,hst]
  have e:((a.length:Int)==0)=decide (a.length=0):=by rw[Bool.eq_iff_iff];simp
  simp only[e]
  refine⟨λhb=>aw ?_,λhb=>⟨hc,af hc hl,?_⟩⟩
  ·rw[hm,if_pos (any_true ha hb)]
  ·rw[aj ha]
   intro c hcm
   rcases List.mem_append.1 hcm with hcm|hcm
   ·exact hI c hcm
   ·rw[List.mem_singleton.1 hcm];exact hb
 ·refine aw ?_
  rw[List.take_of_length_le hc]at hI
  rw[hm,if_neg]
  intro h
  obtain⟨c,hc1,hc2⟩:=List.any_eq_true.1 h
  rw[hI c hc1]at hc2
  cases hc2
end Go.Proofs.Tryz
end
section
namespace Go.Proofs.Tryz
open Go Go.Av
set_option maxRecDepth 10000
variable {W0 :World}
theorem II (l:List Clause):ah prog W0 127 [av l] (.int .i64 (cA l)):=by
 refine al [2] [8] func127 rfl rfl ntmps127 rfl rfl (.int _ _) λhs σ=>?_
 have hl:=(aC (hs _ (List.mem_cons_self ..))).1
 have hls:=(aC (hs _ (List.mem_cons_self ..))).2
 simp only[go_sem,simprocAttr,av,List.length_map]
 refine⟨λh=>aw (by rw[cA,if_pos (.inl ((mN l 12).1 (by simpa using h)))]),λh=>?_⟩
 have h12: ¬12<l.length:=λe=>by have:=(mN l 12).2 e;omega
 refine ae.at [0] (.of (by kernel_rfl)) (λA=>A.st=σ∧(l.any λc=>decide (6<c.length))=false) ?_ λB ⟨hst,h6⟩=>?_
 ·refine ae.upto [0,12,13] (.of (by kernel_rfl)) l.length (λi A=>A.env 14= .int .i64 i∧A.st=σ∧ ∀c∈l.take i,c.length≤6) 0 (Nat.zero_le _) ?_ λi B hi ⟨h8,hst,hI⟩=>?_
  ·simp only[go_sem,simprocAttr]
   simp
  simp only[go_sem,simprocAttr,h8,hst,List.length_map]
  refine⟨λhc=>⟨hc,?_⟩,λhc=>?_⟩
  ·obtain⟨a,ha⟩:=get_some hc
   simp only[an ha]
   simp only[go_sem,simprocAttr,aB,h8,hst,List.length_map]
   refine⟨λhb=>aw ?_,λhb=>⟨hc,af hc hl,?_⟩⟩
   ·rw[cA,if_pos (.inr (any_true ha (decide_eq_true ((mN a 6).1 (by simpa using hb)))))]
   ·rw[aj ha]
    intro c hcm
    rcases List.mem_append.1 hcm with hcm|hcm
    ·exact hI c hcm
    ·rw[List.mem_singleton.1 hcm];omega
  ·rw[List.take_of_length_le hc]at hI
   rw[List.any_eq_false]
   exact λc hcm=>by have:=hI c hcm;simp;omega
 have hm:cA l=if l.any (λc=>decide (c.length=0)||c.any λa=>!cg a)=true then 3 else 0:=by rw[cA,if_neg (by rw[h6];simp;omega)]
 simp only[go_sem,simprocAttr,hst]
 refine ae.upto [22,23] (.of (by kernel_rfl)) l.length (λi A=>A.env 24= .int .i64 i∧Ext σ A.st∧ ∀c∈l.take i,(decide (c.length=0)||c.any λa=>!cg a)=false) 0 (Nat.zero_le _) ?_ λi B hi ⟨h8,hst,hI⟩=>?_
 ·simp only[go_sem,simprocAttr]
  simp[hst,Ext.refl]
 simp only[go_sem,simprocAttr,h8,List.length_map]
 refine⟨λhc=>⟨hc,?_⟩,λhc=>⟨aw ?_,hst⟩⟩
 ·obtain⟨c,hcc⟩:=get_some hc
  simp only[an hcc]
  have hcl:c.length≤maxLen:=(aC (hls c (List.mem_of_getElem? hcc))).1
  simp only[go_sem,simprocAttr,aB,h8,List.length_map]
  refine⟨λh0=>⟨aw ?_,hst⟩,λh0=>?_⟩
  ·have:c.length=0:=by omega
   rw[hm,if_pos (any_true hcc (by simp[this]))]
  refine ae.ats [22,23,24] (.of (by kernel_rfl)) (λA=>Ext σ A.st∧(c.any λa=>!cg a)=false) ?_ λB ⟨hst,h6⟩=>?_
  ·refine ae.upto [22,23,24,31,32] (.of (by kernel_rfl)) c.length (λi A=>A.env 33= .int .i64 i∧Ext σ A.st∧ ∀a∈c.take i,cg a=true) 0 (Nat.zero_le _) ?_ λj B hj ⟨h33,hst,hJ⟩=>?_
   ·simp only[go_sem,simprocAttr]
    simp[hst]
   simp only[go_sem,simprocAttr,h33,List.length_map]
   refine⟨λhc'=>⟨hc',?_⟩,λhc'=>?_⟩
   ·obtain⟨a,ha⟩:=get_some hc'
    simp only[an ha]
    simp only[go_sem,simprocAttr,aS,h33]
    refine ak.fn (tY a) ?_
    simp only[go_sem,simprocAttr,h33]
    refine⟨λhb=>⟨aw ?_,hst.app _⟩,λhb=>⟨hc',af hc' hcl,hst.app _,?_⟩⟩
    ·rw[hm,if_pos (any_true hcc (by rw[any_true ha (by rw[hb];rfl),Bool.or_true]))]
    ·rw[aj ha]
     intro x hxm
     rcases List.mem_append.1 hxm with hxm|hxm
     ·exact hJ x hxm
     ·rw[List.mem_singleton.1 hxm];exact hb
   ·rw[List.take_of_length_le hc']at hJ
    refine⟨hst,?_⟩
    rw[List.any_eq_false]
    exact λx hxm=>by rw[hJ x hxm];simp
  simp only[go_sem,simprocAttr,h8]
  refine⟨hc,af hc hl,hst,?_⟩
  rw[aj hcc]
  intro x hxm
  rcases List.mem_append.1 hxm with hxm|hxm
  ·exact hI x hxm
  ·rw[List.mem_singleton.1 hxm,h6,Bool.or_false];exact decide_eq_false (by omega)
 ·rw[List.take_of_length_le hc]at hI
  rw[hm,if_neg]
  intro h
  obtain⟨c,hc1,hc2⟩:=List.any_eq_true.1 h
  rw[hI c hc1]at hc2
  cases hc2
theorem getD_map {α:Type}{f:α→AV}{l:List α}{i:Nat}{a:α}{d:AV}(h:l[i]?=some a):(l.map f)[i]?.getD d=f a:=by
 rw[List.getElem?_map,h];rfl
theorem HY (l:List Atom):ah prog W0 124 [.sl 81 (l.map aS)] (.sl 81 ((l.take 13).map aS)):=by
 refine al [2] [] func124 rfl rfl ntmps124 rfl rfl (eE pj _) λhs σ=>?_
 have e:sy (l.length:Int) 13=((min l.length 13:Nat):Int):=by unfold sy;split<;>omega
 simp only[go_sem,simprocAttr,List.length_map,e]
 refine⟨by omega,?_⟩
 rw[←List.map_take,List.take_eq_take_iff.2 (show min (min l.length 13) l.length=min 13 l.length by omega)]
 exact .refl _
theorem BX (l:List gX):ah prog W0 126 [.sl 147 (l.map dc)] (.sl 147 ((l.take 13).map dc)):=by
 refine al [2] [] func126 rfl rfl ntmps126 rfl rfl (eE tu _) λhs σ=>?_
 have e:sy (l.length:Int) 13=((min l.length 13:Nat):Int):=by unfold sy;split<;>omega
 simp only[go_sem,simprocAttr,List.length_map,e]
 refine⟨by omega,?_⟩
 rw[←List.map_take,List.take_eq_take_iff.2 (show min (min l.length 13) l.length=min 13 l.length by omega)]
 exact .refl _
theorem E5 (l:List Atom):cA (single (l.take 13))=cA (single l):=by
 rcases Nat.lt_or_ge 12 l.length with h|h
 ·rw[cA,cA,if_pos (.inl (by simp[single];omega)),if_pos (.inl (by simpa[single]using h))]
 ·rw[List.take_of_length_le (by omega)]
theorem Cz (p:Pkg):ah prog W0 59 [au p] (.int .i64 (aY p)):=by
 refine al [2] [1] func59 rfl rfl ntmps59 rfl rfl (.int _ _) λhs σ=>?_
 simp only[go_sem,simprocAttr,au]
 refine ak.fn (yu p.name) ?_
 simp only[go_sem,simprocAttr,au]
 refine ay.fnG (λ_=>sc p.ver) ?_
 simp only[go_sem,simprocAttr,au]
 refine⟨λh=>aw (by rw[aY,if_pos h]),λh=>?_⟩
 have hm:aY p=orL [cA p.pre,cA p.dep,cA p.rcm,cA (single p.con),cA (single p.brk),cA (single (p.dF.map bN))]:=by rw[aY,if_neg (by rw[h];simp)]
 refine⟨.of (by kernel_rfl),ay.fn (HY p.con) ?_⟩
 simp only[go_sem,simprocAttr]
 refine ay.fn (oS (p.con.take 13) (by rw[List.length_take];omega)) ?_
 simp only[go_sem,simprocAttr]
 refine ay.fn (HY p.brk) ?_
 simp only[go_sem,simprocAttr]
 refine ay.fn (oS (p.brk.take 13) (by rw[List.length_take];omega)) ?_
 simp only[go_sem,simprocAttr]
 refine ay.fn (BX p.dF) ?_
 simp only[go_sem,simprocAttr]
 refine ay.fn (zv (p.dF.take 13) (by rw[List.length_take];omega)) ?_
 simp only[go_sem,simprocAttr]
 refine ay.fn (oS ((p.dF.take 13).map bN) (by rw[List.length_map,List.length_take];omega)) ?_
 simp only[go_sem,simprocAttr]
 let ls:=[p.pre,p.dep,p.rcm,single (p.con.take 13),single (p.brk.take 13),single ((p.dF.take 13).map bN)]
 have hl:orL (ls.map cA)=aY p:=by
  rw[hm]
  simp only[ls,List.map_cons,List.map_nil,E5,List.map_take]
 have e:[av p.pre,av p.dep,av p.rcm,av (single (p.con.take 13)),av (single (p.brk.take 13)),av (single ((p.dF.take 13).map bN))]=ls.map av:=rfl
 simp only[e]
 refine ae.upto [35] (.of (by kernel_rfl)) 6 (λi A=>A.env 36= .int .i64 i∧A.st=σ∧orL ((ls.map cA).drop i)=aY p) 0 (Nat.zero_le _) ?_ λi B hi ⟨h8,hst,hI⟩=>?_
 ·simp only[go_sem,simprocAttr]
  exact hl
 simp only[go_sem,simprocAttr,h8,hst]
 refine⟨λhc=>?_,λhc=>aw ?_⟩
 ·have hc':i<ls.length:=by show i<6;omega
  obtain⟨c,hcc⟩:=get_some hc'
  obtain⟨hlt,hae⟩:=List.getElem?_eq_some_iff.1 hcc
  rw[List.drop_eq_getElem_cons (by simpa using hc'),List.getElem_map,hae]at hI
  simp only[getD_map hcc]
  refine⟨by simpa using hc',trivial,ak.fn (II c) ?_⟩
  simp only[go_sem,simprocAttr,h8,hst]
  refine⟨λhq=>aw (by rw[←hI,orL,if_pos hq]),λhq=>⟨by omega,af (show i<6 by omega) (by rw[aq];omega),?_⟩⟩
  rw[←hI,orL,if_neg (by simpa using hq)]
 ·rw[List.drop_eq_nil_of_le (by show 6≤i;omega)]at hI
  exact hI
structure ma (p:Pkg):Prop where
 con:p.con.length≤1048576
 brk:p.brk.length≤1048576
 dF:p.dF.length≤1048576
theorem IH (p:Pkg)(hp:ma p):ah prog W0 80 [au p] (.int .i64 (aY p)):=by
 refine al [2] [1] func80 rfl rfl ntmps80 rfl rfl (.int _ _) λhs σ=>?_
 simp only[go_sem,simprocAttr,au]
 refine ak.fn (jR p.ver) ?_
 have hpv: ∃e u r,fB (eT p.ver)= .tup [.str e,.str u,.str r,.int .i64 (if bn p.ver then 0 else 3)]:=by
  cases h:eT p.ver with
  |none=>exact⟨_,_,_,by rw[bn,h];rfl⟩
  |some v=>exact⟨_,_,_,by rw[bn,h];rfl⟩
 obtain⟨e,u,r,hpv⟩:=hpv
 rw[hpv]
 simp only[go_sem,simprocAttr,au]
 refine ak.fn (ye p.name) ?_
 simp only[go_sem,simprocAttr,au]
 have hb:(!cW p.name||(if bn p.ver=true then(0:Int)else 3) !=0)=(!cW p.name|| !bn p.ver):=by cases bn p.ver<;>rfl
 simp only[hb]
 refine⟨λh=>aw (by rw[aY,if_pos h]),λh=>?_⟩
 have hm:aY p=orL [cA p.pre,cA p.dep,cA p.rcm,cA (single p.con),cA (single p.brk),cA (single (p.dF.map bN))]:=by rw[aY,if_neg (by rw[h];simp)]
 refine⟨.of (by kernel_rfl),ay.fn (uE p.con hp.con) ?_⟩
 simp only[go_sem,simprocAttr]
 refine ay.fn (uE p.brk hp.brk) ?_
 simp only[go_sem,simprocAttr]
 refine ay.fn (zX p.dF hp.dF) ?_
 simp only[go_sem,simprocAttr]
 let ls:=[p.pre,p.dep,p.rcm,single p.con,single p.brk,single (p.dF.map bN)]
 have hl:orL (ls.map cA)=aY p:=by
  rw[hm]
  simp only[ls,List.map_cons,List.map_nil]
 have e:[av p.pre,av p.dep,av p.rcm,av (single p.con),av (single p.brk),av (single (p.dF.map bN))]=ls.map av:=rfl
 simp only[e]
 refine ae.upto [41,42] (.of (by kernel_rfl)) 6 (λi A=>A.env 43= .int .i64 i∧A.st=σ∧orL ((ls.map cA).drop i)=aY p) 0 (Nat.zero_le _) ?_ λi B hi ⟨h8,hst,hI⟩=>?_
 ·simp only[go_sem,simprocAttr]
  exact hl
 simp only[go_sem,simprocAttr,h8,hst]
 refine⟨λhc=>?_,λhc=>aw ?_⟩
 ·have hc':i<ls.length:=by show i<6;omega
  obtain⟨c,hcc⟩:=get_some hc'
  obtain⟨hlt,hae⟩:=List.getElem?_eq_some_iff.1 hcc
  rw[List.drop_eq_getElem_cons (by simpa using hc'),List.getElem_map,hae]at hI
  simp only[an hcc]
  refine⟨by simpa using hc',trivial,ak.fn (Gz c) ?_⟩
  simp only[go_sem,simprocAttr,h8,hst]
  refine⟨λhq=>aw (by rw[←hI,orL,if_pos hq]),λhq=>⟨by omega,af (show i<6 by omega) (by rw[aq];omega),?_⟩⟩
  rw[←hI,orL,if_neg (by simpa using hq)]
 ·rw[List.drop_eq_nil_of_le (by show 6≤i;omega)]at hI
  exact hI
theorem JK (p q:Pkg):ah prog W0 149 [au q,.loc 54 (au p)] (.bool (dy p q)):=by
 refine al [3] [2] func149 rfl rfl ntmps149 rfl rfl (.bool _) λhs σ=>?_
 simp only[go_sem,simprocAttr,au]
 refine ay.fnG (λ_=>oZ q.ver p.ver) ?_
 simp only[go_sem,simprocAttr]
 exact ai rfl
theorem cY.pkg (p:Pkg):cY (au p):=trivial
@[go_sem] theorem Qb (g:Option Bool)(p:Pkg):okM g (au p)=True:=eq_true trivial
@[go_sem] theorem QL (p:Pkg):unm (au p)=au p:=rfl
theorem wa (l:List Pkg)(hp: ∀p∈l,ma p):ah prog W0 90 [aH l] (.int .i64 (bz l)):=by
 refine al [2] [4,8] func90 rfl rfl ntmps90 rfl rfl (.int _ _) λhs σ=>?_
 have hl:=(aC (hs _ (List.mem_cons_self ..))).1
 simp only[go_sem,simprocAttr,aH,List.length_map]
 refine⟨λh=>aw (by rw[bz,if_pos ((mN l 24).1 (by simpa using h))]),λh=>?_⟩
 have h24: ¬24<l.length:=λe=>by have:=(mN l 24).2 e;omega
 refine ae.at [0] (.of (by kernel_rfl)) (λA=>Ext σ A.st∧orL (l.map aY)=0) ?_ λB ⟨hst,h6⟩=>?_
 ·refine ae.upto [0,12,13] (.of (by kernel_rfl)) l.length (λi A=>A.env 14= .int .i64 i∧Ext σ A.st∧orL ((l.map aY).drop i)=orL (l.map aY)) 0 (Nat.zero_le _) ?_ λi B hi ⟨h8,hst,hI⟩=>?_
  ·simp only[go_sem,simprocAttr]
   simp[Ext.refl]
  simp only[go_sem,simprocAttr,h8,List.length_map]
  refine⟨λhc=>⟨hc,?_⟩,λhc=>?_⟩
  ·obtain⟨a,ha⟩:=get_some hc
   obtain⟨hlt,hae⟩:=List.getElem?_eq_some_iff.1 ha
   rw[List.drop_eq_getElem_cons (by simpa using hc),List.getElem_map,hae]at hI
   simp only[an ha]
   simp only[go_sem,simprocAttr,h8,List.length_map]
   refine⟨by kernel_rfl,ak.fn (IH a (hp a (List.mem_of_getElem? ha))) ?_⟩
   simp only[go_sem,simprocAttr,h8]
   refine⟨λhq=>⟨aw ?_,hst.app _⟩,λhq=>⟨hc,af hc hl,hst.app _,?_⟩⟩
   ·rw[orL,if_pos hq]at hI
    rw[bz,if_neg h24,if_pos (by rw[←hI];exact hq),hI]
   ·rw[←hI,orL,if_neg (by simpa using hq)]
  ·rw[List.drop_eq_nil_of_le (by simpa using hc)]at hI
   exact⟨hst,hI.symm⟩
 have hm:bz l=if nN [] l=true then 4 else if 10<(du l []).length then 12 else 0:=by rw[bz,if_neg h24,if_neg (by simp[h6])]
 simp only[go_sem,simprocAttr,List.length_map]
 refine ae.at [0,24,25] (.of (by kernel_rfl)) (λA=>∃ v,A.env 6=v∧aP σ A.st v 9 ((du l []).map .str)∧nN [] l=false) ?_ λB ⟨v,h6,hb,hd⟩=>?_
 ·refine ae.upto [0,24,25] (.of (by kernel_rfl)) l.length (λi A=>∃ v acc,A.env 6=v∧A.env 26= .int .i64 i∧aP σ A.st v 9 (acc.map .str)∧du (l.drop i) acc=du l []∧nN (l.take i) (l.drop i)=nN [] l∧acc.length≤i) 0 (Nat.zero_le _) ?_ λi B hi ⟨v,acc,h6,h8,hb,hn,hd,hal⟩=>?_
  ·simp only[go_sem,simprocAttr]
   exact⟨_,[],rfl,aP.nil hst _,by simp⟩
  simp only[go_sem,simprocAttr,h6,h8,hb.ok,hb.un,List.length_map]
  refine⟨λhc=>⟨hc,?_⟩,λhc=>?_⟩
  ·obtain⟨a,ha⟩:=get_some hc
   obtain⟨hlt,hae⟩:=List.getElem?_eq_some_iff.1 ha
   rw[List.drop_eq_getElem_cons hc,hae]at hn hd
   simp only[an ha]
   simp only[go_sem,simprocAttr,h6,h8,hb.ok,hb.un,List.length_map]
   rw[←List.map_take]
   refine⟨by kernel_rfl,⟨Nat.zero_le _,hi⟩,ak.fn (Mu au cY.pkg (l.take i) (dy a) _ [.loc 54 (au a)] (λq _=>JK a q)) ?_⟩
   simp only[go_sem,simprocAttr,au,h6,h8,hb.ok,hb.un]
   rw[nN]at hd
   refine⟨λhq=>⟨aw ?_,hb.ext.app _⟩,λhq=>ak.fn ((No acc a.name).cy (.cons hb.cy (.cons (.refl _) .nil))) ?_⟩
   ·rw[hm,←hd,hq,if_pos (by simp)]
   rw[hq,Bool.false_or,←aj ha]at hd
   simp only[go_sem,simprocAttr,au,h6,h8,hb.ok,hb.un]
   rw[du]at hn
   have hb2:=(hb.more [none])
   refine⟨λh=>?_,λh=>⟨hc,v,acc,rfl,af hc hl,hb2,?_,hd,by omega⟩⟩
   ·refine bI.own 1048576 (by kernel_rfl) hb2.bld (.lit _ _ _) (by simp;omega) λv' σ' ha'=>?_
    have hb':=hb2.app ha'
    simp only[go_sem,simprocAttr,h6,h8,hb'.ok,hb'.un]
    refine⟨hc,_,acc++[a.name],rfl,af hc hl,by simpa using hb',?_,hd,by simp;omega⟩
    rw[if_neg (by simp[h])]at hn
    exact hn
   ·rw[if_pos h]at hn
    exact hn
  ·rw[List.drop_eq_nil_of_le hc]at hn hd
   exact⟨_,rfl,by rw[←hn];exact hb,hd.symm⟩
 simp only[go_sem,simprocAttr,h6,hb.ok,hb.un,hb.len,hb.fP,List.length_map]
 refine⟨λhq=>⟨aw ?_,hb.ext⟩,λhq=>⟨aw ?_,hb.ext⟩⟩
 ·rw[hm,hd,if_neg (by simp),if_pos ((mN _ 10).1 hq)]
 ·rw[hm,hd,if_neg (by simp),if_neg (λe=>hq ((mN _ 10).2 e))]
end Go.Proofs.Tryz
end
section
namespace Go.Proofs.Tryz
open Go Go.Av
set_option maxRecDepth 10000
variable {W0 :World}
theorem Ez (l:List Pkg):ah prog W0 19 [aH l] (.int .i64 (bz l)):=by
 refine al [2] [4,8,11] func19 rfl rfl ntmps19 rfl rfl (.int _ _) λhs σ=>?_
 have hl:=(aC (hs _ (List.mem_cons_self ..))).1
 simp only[go_sem,simprocAttr,aH,List.length_map]
 refine⟨λh=>aw (by rw[bz,if_pos ((mN l 24).1 (by simpa using h))]),λh=>?_⟩
 have h24: ¬24<l.length:=λe=>by have:=(mN l 24).2 e;omega
 refine ae.at [0] (.of (by kernel_rfl)) (λA=>Ext σ A.st∧orL (l.map aY)=0) ?_ λB ⟨hst,h6⟩=>?_
 ·refine ae.upto [0,15,16] (.of (by kernel_rfl)) l.length (λi A=>A.env 17= .int .i64 i∧Ext σ A.st∧orL ((l.map aY).drop i)=orL (l.map aY)) 0 (Nat.zero_le _) ?_ λi B hi ⟨h8,hst,hI⟩=>?_
  ·simp only[go_sem,simprocAttr]
   simp[Ext.refl]
  simp only[go_sem,simprocAttr,h8,List.length_map]
  refine⟨λhc=>⟨hc,?_⟩,λhc=>?_⟩
  ·obtain⟨a,ha⟩:=get_some hc
   obtain⟨hlt,hae⟩:=List.getElem?_eq_some_iff.1 ha
   rw[List.drop_eq_getElem_cons (by simpa using hc),List.getElem_map,hae]at hI
   simp only[an ha]
   simp only[go_sem,simprocAttr,h8,List.length_map]
   refine⟨by kernel_rfl,ak.fn (Cz a) ?_⟩
   simp only[go_sem,simprocAttr,h8]
   refine⟨λhq=>⟨aw ?_,hst.app _⟩,λhq=>⟨hc,af hc hl,hst.app _,?_⟩⟩
   ·rw[orL,if_pos hq]at hI
    rw[bz,if_neg h24,if_pos (by rw[←hI];exact hq),hI]
   ·rw[←hI,orL,if_neg (by simpa using hq)]
  ·rw[List.drop_eq_nil_of_le (by simpa using hc)]at hI
   exact⟨hst,hI.symm⟩
 have hm:bz l=if nN [] l=true then 4 else if 10<(du l []).length then 12 else 0:=by rw[bz,if_neg h24,if_neg (by simp[h6])]
 simp only[go_sem,simprocAttr,List.length_map]
 refine ae.at [0,27,28] (.of (by kernel_rfl)) (λA=>∃ v,A.env 6=v∧aP σ A.st v 9 ((du l []).map .str)∧nN [] l=false) ?_ λB ⟨v,h6,hb,hd⟩=>?_
 ·refine ae.upto [0,27,28] (.of (by kernel_rfl)) l.length (λi A=>∃ v acc,A.env 6=v∧A.env 29= .int .i64 i∧aP σ A.st v 9 (acc.map .str)∧du (l.drop i) acc=du l []∧nN (l.take i) (l.drop i)=nN [] l∧acc.length≤i∧ ∀n,acc.any (λx=>n==x)=(l.take i).any (λq=>q.name==n)) 0 (Nat.zero_le _) ?_ λi B hi ⟨v,acc,h6,h8,hb,hn,hd,hal,hnm⟩=>?_
  ·simp only[go_sem,simprocAttr]
   exact⟨_,[],rfl,aP.nil hst _,by simp⟩
  simp only[go_sem,simprocAttr,h6,h8,hb.ok,hb.un,List.length_map]
  refine⟨λhc=>⟨hc,?_⟩,λhc=>?_⟩
  ·obtain⟨a,ha⟩:=get_some hc
   obtain⟨hlt,hae⟩:=List.getElem?_eq_some_iff.1 ha
   rw[List.drop_eq_getElem_cons hc,hae]at hn hd
   simp only[an ha]
   simp only[go_sem,simprocAttr,h6,h8,hb.ok,hb.un,List.length_map]
   rw[←List.map_take]
   refine⟨by kernel_rfl,⟨Nat.zero_le _,hi⟩,?_⟩
   rw[nN]at hd
   rw[du]at hn
   have hb2:=(hb.more [none])
   have hil:(l.take i).length=i:=by rw[List.length_take];omega
   refine ae.at [0,6,8,27,28,29] (.of (by kernel_rfl)) (λA=>Ext (B.st++[none]) A.st∧A.env 9= .bool ((l.take i).any λq=>q.name==a.name)∧(l.take i).any (dy a)=false) ?_ λA ⟨hst,h9,hd2⟩=>?_
   ·refine ae.upto [0,6,8,27,28,29,36,37] (.of (by kernel_rfl)) i (λj A=>A.env 38= .int .i64 j∧Ext (B.st++[none]) A.st∧A.env 9= .bool (((l.take i).take j).any λq=>q.name==a.name)∧((l.take i).take j).any (dy a)=false) 0 (Nat.zero_le _) ?_ λj A hj ⟨h38,hst,h9,hd2⟩=>?_
    ·simp only[go_sem,simprocAttr,List.length_map]
     exact⟨.refl _,by simp,by simp⟩
    simp only[go_sem,simprocAttr,h38,h9,List.length_map]
    refine⟨λhj'=>⟨hj',?_⟩,λhj'=>?_⟩
    ·obtain⟨b,hbj⟩:=get_some hj'
     have hjl:j<i:=by omega
     simp only[an hbj]
     simp only[go_sem,simprocAttr,au,h38,h9]
     have he: ∀f:Pkg→Bool,((l.take i).take (j+1)).any f=(((l.take i).take j).any f||f b):=λf=>by rw[aj hbj,List.any_append];simp
     refine⟨λhq=>ak.fn (eX b.ver a.ver) ?_,λhq=>?_⟩
     ·simp only[go_sem,simprocAttr,h38,h9]
      refine⟨λhv=>⟨aw ?_,hb2.ext.trans (hst.app _)⟩,λhv=>⟨hjl,af hjl (by omega),hst.app _,?_,?_⟩⟩
      ·have:(l.take i).any (dy a)=true:=any_true hbj (by simp[dy,hq,hv])
       rw[hm,←hd,this,if_pos (by simp)]
      ·rw[he];simp[hq]
      ·rw[he,hd2];simp[dy,hv]
     ·refine⟨hjl,af hjl (by omega),hst.app _,?_,?_⟩
      ·rw[he];simp[hq]
      ·rw[he,hd2];simp[dy,hq]
    ·rw[List.take_of_length_le hj']at h9 hd2 ⊢
     exact⟨hst,rfl,hd2⟩
   have hb3:=hb2.on hst
   rw[hd2,Bool.false_or,←aj ha]at hd
   have hns: ∀acc':List (List UInt8),acc'=(if (acc.any λx=>a.name==x)=true then acc else acc++[a.name])→ ∀n,acc'.any (λx=>n==x)=(l.take (i+1)).any (λq=>q.name==n):=λacc' e n=>by
    rw[aj ha,List.any_append,←hnm n,e]
    by_cases hx:(acc.any λx=>a.name==x)=true
    ·rw[if_pos hx]
     by_cases hna:a.name=n
     ·subst hna;simp[hx]
     ·simp[hna]
    ·rw[if_neg hx,List.any_append]
     have:(n==a.name)=(a.name==n):=by rw[Bool.eq_iff_iff,beq_iff_eq,beq_iff_eq];exact⟨Eq.symm,Eq.symm⟩
     simp[this]
   simp only[go_sem,simprocAttr,au,h6,h8,h9,hb3.ok,hb3.un]
   refine⟨λh=>?_,λh=>⟨hc,v,acc,rfl,af hc hl,hb3,?_,hd,by omega,?_⟩⟩
   ·refine bI.own 1048576 (by kernel_rfl) hb3.bld (.lit _ _ _) (by simp;omega) λv' σ' ha'=>?_
    have hb':=hb3.app ha'
    simp only[go_sem,simprocAttr,h6,h8,hb'.ok,hb'.un]
    rw[←hnm]at h
    rw[if_neg (by rw[h];simp)]at hn hns
    refine⟨hc,_,acc++[a.name],rfl,af hc hl,by simpa using hb',hn,hd,by simp;omega,hns _ rfl⟩
   ·rw[←hnm]at h
    rw[if_pos h]at hn
    exact hn
   ·rw[←hnm]at h
    rw[if_pos h]at hns
    exact hns _ rfl
  ·rw[List.drop_eq_nil_of_le hc]at hn hd
   exact⟨_,rfl,by rw[←hn];exact hb,hd.symm⟩
 simp only[go_sem,simprocAttr,h6,hb.ok,hb.un,hb.len,hb.fP,List.length_map]
 refine⟨λhq=>⟨aw ?_,hb.ext⟩,λhq=>⟨aw ?_,hb.ext⟩⟩
 ·rw[hm,hd,if_neg (by simp),if_pos ((mN _ 10).1 hq)]
 ·rw[hm,hd,if_neg (by simp),if_neg (λe=>hq ((mN _ 10).2 e))]
end Go.Proofs.Tryz
end
section
namespace Go.Av
theorem any_succ {α:Type}{l:List α}{i:Nat}{x:α}(h:l[i]?=some x)(f:α→Bool):(l.take (i+1)).any f=((l.take i).any f||f x):=by
 rw[aj h,List.any_append];simp
theorem j4 {α:Type}{l:List α}{i:Nat}(h:l.length≤i)(f:α→Bool):(l.take i).any f=l.any f:=by rw[List.take_of_length_le h]
def di (p:Pkg)(a:Atom):Bool:=
 cg a&&((p.name==a.name&&eC a.rel p.ver a.ver)||p.dF.any λv=>v.name==a.name&&(a.rel==0||eC a.rel v.ver a.ver))
def jU (p q:Pkg):Bool:=p.con.any (di q)||p.brk.any (di q)
def eP (p q:Pkg):Bool:=p.name !=q.name&&(jU p q||jU q p)
def iU (c:Clause)(l:List Pkg):Bool:=c.any λa=>l.any λp=>di p a
def pJ (l bef:List Pkg)(p:Pkg):Bool:=aY p !=0||bef.any (λq=>q.name==p.name||eP p q)||(p.pre.any (λc=>!iU c l)||p.dep.any (λc=>!iU c l))
def rO (l:List Pkg):List Pkg→List Pkg→Bool
 |_,[]=>false
 |bef,p::r=>pJ l bef p||rO l (bef++[p]) r
def ec (l:List Pkg):Bool:=!rO l [] l
theorem FF :bn []=false:=rfl
theorem holds_nil {r:Int}(b:List UInt8):eC r [] b=false:=by
 unfold eC
 rw[FF]
 split<;>rfl
end Go.Av
end
section
namespace Go.Proofs.Tryz
open Go Go.Av
set_option maxRecDepth 10000
variable {W0 :World}
@[go_sem] theorem Pj (g:Option Bool)(p:Atom):okM g (aS p)=True:=eq_true trivial
@[go_sem] theorem PI (p:Atom):unm (aS p)=aS p:=rfl
@[go_sem] theorem Mr (p:Atom):bp prog 81 (aS p)=true:=by kernel_rfl
@[go_sem] theorem PY (p:Pkg):bp prog 54 (au p)=true:=by kernel_rfl
@[go_sem] theorem Pp (g:Option Bool)(p:gX):okM g (dc p)=True:=eq_true trivial
@[go_sem] theorem Ng (p:gX):unm (dc p)=dc p:=rfl
theorem cY.dF (p:gX):cY (dc p):=trivial
theorem JH (a:Atom)(v:gX):ah prog W0 183 [dc v,.loc 81 (aS a)] (.bool (v.name==a.name&&(a.rel==0||eC a.rel v.ver a.ver))):=by
 refine al [3] [2] func183 rfl rfl ntmps183 rfl rfl (.bool _) λhs σ=>?_
 simp only[go_sem,simprocAttr,dc,aS]
 refine ay.fnG (λ_=>A4 a.rel v.ver a.ver) ?_
 simp only[go_sem,simprocAttr]
theorem G7 (p:Pkg)(a:Atom):ah prog W0 133 [au p,aS a] (.bool (di p a)):=by
 refine al [4] [2,3] func133 rfl rfl ntmps133 rfl rfl (.bool _) λhs σ=>?_
 simp only[go_sem,simprocAttr,au,aS]
 refine ak.fn (uJ a) ?_
 simp only[go_sem,simprocAttr,au,aS]
 refine⟨λh=>ai (by rw[di,h];rfl),λh=>ay.fnG (λ_=>A4 a.rel p.ver a.ver) ?_⟩
 simp only[go_sem,simprocAttr,au,aS]
 refine⟨λh2=>ai (by rw[di,h,h2];rfl),λh2=>ak.fn (Nh dc cY.dF p.dF _ _ [.loc 81 (aS a)] (λq _=>JH a q)) ?_⟩
 simp only[go_sem,simprocAttr]
 exact ai (by rw[di,h,h2];simp)
theorem rP (q:Pkg)(a:Atom):ah prog W0 192 [aS a,.loc 54 (au q)] (.bool (di q a)):=by
 refine al [3] [2] func192 rfl rfl ntmps192 rfl rfl (.bool _) λhs σ=>?_
 simp only[go_sem,simprocAttr]
 refine ak.fn (G7 q a) ?_
 simp only[go_sem,simprocAttr]
 try exact ai rfl
theorem uy (p q:Pkg):ah prog W0 136 [au p,au q] (.bool (jU p q)):=by
 refine al [4] [2,3] func136 rfl rfl ntmps136 rfl rfl (.bool _) λhs σ=>?_
 simp only[go_sem,simprocAttr,au]
 refine ak.fn (GO aS cY.atom p.con (di q) _ [.loc 54 (au q)] (λa _=>rP q a)) ?_
 simp only[go_sem,simprocAttr,au]
 refine ay.go (λ_=>GO aS cY.atom p.brk (di q) _ [.loc 54 (au q)] (λa _=>rP q a)) ?_
 simp only[go_sem,simprocAttr]
 try exact ai rfl
theorem zS (p q:Pkg):ah prog W0 75 [au p,au q] (.bool (eP p q)):=by
 refine al [4] [2,3] func75 rfl rfl ntmps75 rfl rfl (.bool _) λhs σ=>?_
 simp only[go_sem,simprocAttr,au]
 refine ay.fnG (λ_=>uy p q) ?_
 simp only[go_sem,simprocAttr]
 refine ay.fnG (λ_=>uy q p) ?_
 simp only[go_sem,simprocAttr]
 try exact ai rfl
theorem CX (p:Pkg)(a:Atom):ah prog W0 76 [au p,aS a] (.bool (di p a)):=by
 refine al [4] [2,3,6] func76 rfl rfl ntmps76 rfl rfl (.bool _) λhs σ=>?_
 have hl:=(aC (nG (hs _ (List.mem_cons_self ..)) (bW p.dF) (by simp))).1
 simp only[go_sem,simprocAttr,au,aS]
 refine ak.fn (tY a) ?_
 simp only[go_sem,simprocAttr,au,aS]
 refine⟨λh=>ai (by rw[di,h];rfl),λh=>ay.fnG (λ_=>yU a.rel p.ver a.ver) ?_⟩
 simp only[go_sem,simprocAttr,au,aS]
 refine⟨λh2=>ai (by rw[di,h,h2];rfl),λh2=>?_⟩
 simp only[go_sem,simprocAttr,bW,List.length_map]
 refine ae.upto [3,25,26] (.of (by kernel_rfl)) p.dF.length (λi A=>A.env 27= .int .i64 i∧Ext σ A.st∧(p.dF.take i).any (λv=>v.name==a.name&&(a.rel==0||eC a.rel v.ver a.ver))=false) 0 (Nat.zero_le _) ?_ λi B hi ⟨h8,hst,hI⟩=>?_
 ·simp only[go_sem,simprocAttr]
  simp[Ext.refl]
 simp only[go_sem,simprocAttr,h8,List.length_map]
 refine⟨λhc=>⟨hc,?_⟩,λhc=>⟨ai ?_,hst⟩⟩
 ·obtain⟨v,hv⟩:=get_some hc
  simp only[an hv]
  simp only[go_sem,simprocAttr,dc,h8]
  refine ay.fnG (λ_=>yU a.rel v.ver a.ver) ?_
  simp only[go_sem,simprocAttr,h8]
  have e:(v.name==a.name&&(a.rel==0|| !v.ver==[]&&eC a.rel v.ver a.ver))=(v.name==a.name&&(a.rel==0||eC a.rel v.ver a.ver)):=by
   cases hv:v.ver with
   |nil=>rw[holds_nil];simp
   |cons c r=>simp
  simp only[e]
  refine⟨λhq=>⟨ai ?_,hst.app _⟩,λhq=>⟨hc,af hc hl,hst.app _,by rw[any_succ hv,hI,hq];rfl⟩⟩
  rw[di,h,h2,any_true hv hq];rfl
 ·rw[j4 hc]at hI
  rw[di,h,h2,hI];rfl
theorem rJ (p q:Pkg):ah prog W0 129 [au p,au q] (.bool (jU p q)):=by
 refine al [4] [2,3,8] func129 rfl rfl ntmps129 rfl rfl (.bool _) λhs σ=>?_
 have hl1:=(aC (nG (hs _ (List.mem_cons_self ..)) (aB p.con) (by simp))).1
 have hl2:=(aC (nG (hs _ (List.mem_cons_self ..)) (aB p.brk) (by simp))).1
 simp only[go_sem,simprocAttr,au]
 let ls:=[p.con,p.brk]
 have e:[aB p.con,aB p.brk]=ls.map aB:=rfl
 have hls: ∀l∈ls,l.length≤maxLen:=by simp only[ls];simp[hl1,hl2]
 have ha:jU p q=ls.any λl=>l.any (di q):=by simp only[ls];simp[jU]
 simp only[e]
 refine ae.upto [3,13] (.of (by kernel_rfl)) 2 (λi A=>A.env 14= .int .i64 i∧Ext σ A.st∧((ls.take i).any λl=>l.any (di q))=false) 0 (Nat.zero_le _) ?_ λi B hi ⟨h8,hst,hI⟩=>?_
 ·simp only[go_sem,simprocAttr]
  simp[Ext.refl]
 simp only[go_sem,simprocAttr,h8]
 refine⟨λhc=>?_,λhc=>⟨ai ?_,hst⟩⟩
 ·have hc':i<ls.length:=by show i<2;omega
  obtain⟨l,hll⟩:=get_some hc'
  have hl:=hls l (List.mem_of_getElem? hll)
  simp only[getD_map hll]
  simp only[go_sem,simprocAttr,aB,List.length_map]
  refine⟨hc',ae.ats [3,13,14] (.of (by kernel_rfl)) (λA=>Ext σ A.st∧l.any (di q)=false) ?_ λA ⟨hst,hd⟩=>?_⟩
  ·refine ae.upto [3,13,14,17,18] (.of (by kernel_rfl)) l.length (λj A=>A.env 19= .int .i64 j∧Ext σ A.st∧(l.take j).any (di q)=false) 0 (Nat.zero_le _) ?_ λj A hj ⟨h19,hst,hJ⟩=>?_
   ·simp only[go_sem,simprocAttr]
    simp[hst]
   simp only[go_sem,simprocAttr,h19,List.length_map]
   refine⟨λhc'=>⟨hc',?_⟩,λhc'=>⟨hst,by rwa [j4 hc']at hJ⟩⟩
   obtain⟨a,ha'⟩:=get_some hc'
   simp only[an ha']
   simp only[go_sem,simprocAttr,h19]
   refine ak.fn (CX q a) ?_
   simp only[go_sem,simprocAttr,h19]
   refine⟨λhq=>⟨ai ?_,hst.app _⟩,λhq=>⟨hc',af hc' hl,hst.app _,by rw[any_succ ha',hJ,hq];rfl⟩⟩
   rw[ha,any_true hll (any_true ha' hq)]
  simp only[go_sem,simprocAttr,h8]
  exact⟨by omega,af (show i<2 by omega) (by rw[aq];omega),hst,by rw[any_succ hll,hI,hd];rfl⟩
 ·rw[j4 (by show 2≤i;omega)]at hI
  rw[ha,hI]
theorem EM (p q:Pkg):ah prog W0 65 [au p,au q] (.bool (eP p q)):=by
 refine al [4] [2,3] func65 rfl rfl ntmps65 rfl rfl (.bool _) λhs σ=>?_
 simp only[go_sem,simprocAttr,au]
 refine ay.fnG (λ_=>rJ p q) ?_
 simp only[go_sem,simprocAttr]
 refine ay.fnG (λ_=>rJ q p) ?_
 simp only[go_sem,simprocAttr]
 try exact ai rfl
theorem DJ (c:Clause)(l:List Pkg):ah prog W0 29 [aB c,aH l] (.bool (iU c l)):=by
 refine al [4] [6,8] func29 rfl rfl ntmps29 rfl rfl (.bool _) λhs σ=>?_
 have hcl:=(aC (hs _ (List.mem_cons_self ..))).1
 have hl:=(aC (hs (aH l) (by simp))).1
 simp only[go_sem,simprocAttr,aB,aH,List.length_map]
 refine ae.upto [1,9,10] (.of (by kernel_rfl)) c.length (λi A=>A.env 11= .int .i64 i∧Ext σ A.st∧((c.take i).any λa=>l.any λp=>di p a)=false) 0 (Nat.zero_le _) ?_ λi B hi ⟨h8,hst,hI⟩=>?_
 ·simp only[go_sem,simprocAttr]
  simp[Ext.refl]
 simp only[go_sem,simprocAttr,h8,List.length_map]
 refine⟨λhc=>⟨hc,?_⟩,λhc=>⟨ai ?_,hst⟩⟩
 ·obtain⟨a,ha⟩:=get_some hc
  simp only[an ha]
  simp only[go_sem,simprocAttr,h8,List.length_map]
  refine ae.ats [1,9,10,11] (.of (by kernel_rfl)) (λA=>Ext σ A.st∧(l.any λp=>di p a)=false) ?_ λA ⟨hst,hd⟩=>?_
  ·refine ae.upto [1,6,9,10,11,15,16] (.of (by kernel_rfl)) l.length (λj A=>A.env 17= .int .i64 j∧Ext σ A.st∧((l.take j).any λp=>di p a)=false) 0 (Nat.zero_le _) ?_ λj A hj ⟨h19,hst,hJ⟩=>?_
   ·simp only[go_sem,simprocAttr]
    simp[hst.app]
   simp only[go_sem,simprocAttr,h19,List.length_map]
   refine⟨λhc'=>⟨hc',?_⟩,λhc'=>⟨hst,by rwa [j4 hc']at hJ⟩⟩
   obtain⟨p,hp⟩:=get_some hc'
   simp only[an hp]
   simp only[go_sem,simprocAttr,h19]
   refine ak.fn (CX p a) ?_
   simp only[go_sem,simprocAttr,h19]
   refine⟨λhq=>⟨ai ?_,hst.app _⟩,λhq=>⟨hc',af hc' hl,hst.app _,by rw[any_succ hp,hJ,hq];rfl⟩⟩
   rw[iU,any_true ha (any_true hp hq)]
  simp only[go_sem,simprocAttr,h8]
  exact⟨hc,af hc hcl,hst,by rw[any_succ ha,hI,hd];rfl⟩
 ·rw[j4 hc]at hI
  exact hI.symm
theorem Ac (l:List Pkg):ah prog W0 24 [aH l] (.bool (ec l)):=by
 refine al [2] [4,6] func24 rfl rfl ntmps24 rfl rfl (.bool _) λhs σ=>?_
 have hl:=(aC (hs _ (List.mem_cons_self ..))).1
 have hls:=(aC (hs _ (List.mem_cons_self ..))).2
 simp only[go_sem,simprocAttr,aH,List.length_map]
 refine ae.upto [0,11,12] (.of (by kernel_rfl)) l.length (λi A=>A.env 13= .int .i64 i∧Ext σ A.st∧rO l (l.take i) (l.drop i)=rO l [] l) 0 (Nat.zero_le _) ?_ λi B hi ⟨h8,hst,hI⟩=>?_
 ·simp only[go_sem,simprocAttr]
  simp[Ext.refl]
 simp only[go_sem,simprocAttr,h8,List.length_map]
 refine⟨λhc=>⟨hc,?_⟩,λhc=>⟨ai ?_,hst⟩⟩
 ·obtain⟨a,ha⟩:=get_some hc
  obtain⟨hlt,hae⟩:=List.getElem?_eq_some_iff.1 ha
  have hsm:=nG (hls a (List.mem_of_getElem? ha))
  have hpre:a.pre.length≤maxLen:=(aC (hsm (av a.pre) (by simp))).1
  have hdep:a.dep.length≤maxLen:=(aC (hsm (av a.dep) (by simp))).1
  rw[List.drop_eq_getElem_cons hc,hae,rO]at hI
  have sick:pJ l (l.take i) a=true→false=ec l:=λe=>by rw[ec,←hI,e];rfl
  simp only[an ha]
  simp only[go_sem,simprocAttr,h8,List.length_map]
  refine ak.fn (Cz a) ?_
  simp only[go_sem,simprocAttr,h8,List.length_map]
  refine⟨λhq=>⟨ai (sick ?_),hst.app _⟩,λhq=>?_⟩
  ·simp[pJ,hq]
  rw[←List.map_take]
  have hil:(l.take i).length=i:=by rw[List.length_take];omega
  refine⟨⟨Nat.zero_le _,hi⟩,ae.at [0,4,11,12,13] (.of (by kernel_rfl)) (λA=>Ext σ A.st∧(l.take i).any (λq=>q.name==a.name||eP a q)=false) ?_ λA ⟨hst,hn⟩=>?_⟩
  ·refine ae.upto [0,4,11,12,13,23,24] (.of (by kernel_rfl)) i (λj A=>A.env 25= .int .i64 j∧Ext σ A.st∧((l.take i).take j).any (λq=>q.name==a.name||eP a q)=false) 0 (Nat.zero_le _) ?_ λj A hj ⟨h25,hst,hJ⟩=>?_
   ·simp only[go_sem,simprocAttr]
    simp[hst.app]
   simp only[go_sem,simprocAttr,h25,List.length_map]
   refine⟨λhj'=>⟨hj',?_⟩,λhj'=>⟨hst,by rwa [j4 hj']at hJ⟩⟩
   obtain⟨b,hbj⟩:=get_some hj'
   simp only[an hbj]
   simp only[go_sem,simprocAttr,au,h25]
   refine ay.fnG (λ_=>EM a b) ?_
   simp only[go_sem,simprocAttr,h25]
   refine⟨λhq=>⟨ai (sick ?_),hst.app _⟩,λhq=>⟨by omega,af (show j<i by omega) (by omega),hst.app _,by rw[any_succ hbj,hJ,hq];rfl⟩⟩
   rw[pJ,any_true hbj hq];simp
  simp only[go_sem,simprocAttr,au,h8]
  let ls:=[a.pre,a.dep]
  have e:[av a.pre,av a.dep]=ls.map av:=rfl
  have hls: ∀l∈ls,l.length≤maxLen:=by simp only[ls];simp[hpre,hdep]
  have hms:(a.pre.any (λc=>!iU c l)||a.dep.any (λc=>!iU c l))=ls.any λd=>d.any λc=>!iU c l:=by simp only[ls];simp
  simp only[e]
  refine ae.ats [0,11,12,13] (.of (by kernel_rfl)) (λA=>Ext σ A.st∧(ls.any λd=>d.any λc=>!iU c l)=false) ?_ λA ⟨hst,hd⟩=>?_
  ·refine ae.upto [0,11,12,13,44] (.of (by kernel_rfl)) 2 (λk A=>A.env 45= .int .i64 k∧Ext σ A.st∧((ls.take k).any λd=>d.any λc=>!iU c l)=false) 0 (Nat.zero_le _) ?_ λk A hk ⟨h45,hst,hK⟩=>?_
   ·simp only[go_sem,simprocAttr]
    simp[hst]
   simp only[go_sem,simprocAttr,h45]
   refine⟨λhc=>?_,λhc=>⟨hst,by rwa [j4 (by show 2≤k;omega)]at hK⟩⟩
   have hc':k<ls.length:=by show k<2;omega
   obtain⟨d,hd⟩:=get_some hc'
   have hl:=hls d (List.mem_of_getElem? hd)
   simp only[getD_map hd]
   simp only[go_sem,simprocAttr,av,h45,List.length_map]
   refine⟨hc',ae.ats [0,11,12,13,44,45] (.of (by kernel_rfl)) (λA=>Ext σ A.st∧(d.any λc=>!iU c l)=false) ?_ λA ⟨hst,hd'⟩=>?_⟩
   ·refine ae.upto [0,11,12,13,44,45,48,49] (.of (by kernel_rfl)) d.length (λj A=>A.env 50= .int .i64 j∧Ext σ A.st∧((d.take j).any λc=>!iU c l)=false) 0 (Nat.zero_le _) ?_ λj A hj ⟨h50,hst,hJ⟩=>?_
    ·simp only[go_sem,simprocAttr]
     simp[hst]
    simp only[go_sem,simprocAttr,h50,List.length_map]
    refine⟨λhc'=>⟨hc',?_⟩,λhc'=>⟨hst,by rwa [j4 hc']at hJ⟩⟩
    obtain⟨c,hcj⟩:=get_some hc'
    simp only[an hcj]
    simp only[go_sem,simprocAttr,h50]
    refine ak.fn (DJ c l) ?_
    simp only[go_sem,simprocAttr,h50]
    refine⟨λhq=>⟨ai (sick ?_),hst⟩,λhq=>⟨hc',af hc' hl,hst,by rw[any_succ hcj,hJ,hq];rfl⟩⟩
    rw[pJ,hms,any_true hd (any_true hcj (by rw[hq];rfl))];simp
   simp only[go_sem,simprocAttr,h45]
   exact⟨by omega,af (show k<2 by omega) (by rw[aq];omega),hst,by rw[any_succ hd,hK,hd'];rfl⟩
  simp only[go_sem,simprocAttr,h8]
  refine⟨hc,af hc hl,hst,?_⟩
  have:pJ l (l.take i) a=false:=by rw[pJ,hn,hms,hd,hq];rfl
  rw[this,Bool.false_or,←aj ha]at hI
  exact hI
 ·rw[List.drop_eq_nil_of_le hc]at hI
  rw[ec,←hI];rfl
end Go.Proofs.Tryz
end
section
namespace Go.Av
section
variable {P :Program}{W0:World}{A:aa}
def Dn :AV→Option Nat
 | .row _ id _ _=>some id
 |_=>none
structure dQ (σ st:ab)(v:AV)(e:TypeId)(xs:List AV):Prop where
 row:dB st v e xs
 ext:Ext σ st
 low: ∀id,Dn v=some id→σ.length≤id
theorem dQ.nil {σ st:ab}(h:Ext σ st)(e:TypeId):dQ σ st .aA e []:=⟨.inl ⟨rfl,rfl⟩,h,λt h=>by cases h⟩
theorem dQ.notM {σ st:ab}{v:AV}{e:TypeId}{xs:List AV}(h:dQ σ st v e xs):cY v:=by
 rcases h.row with⟨rfl,rfl⟩|rfl|⟨_,_,_,_,rfl,_⟩<;>trivial
theorem dQ.ok {σ st:ab}{v:AV}{e:TypeId}{xs:List AV}(h:dQ σ st v e xs)(g:Option Bool):okM g v=True:=bY h.notM
theorem dQ.un {σ st:ab}{v:AV}{e:TypeId}{xs:List AV}(h:dQ σ st v e xs):unm v=v:=cH h.notM
theorem dB.len {st:ab}{v:AV}{e:TypeId}{xs:List AV}(h:dB st v e xs):mZ v= .int .i64 xs.length:=by
 rcases h with⟨rfl,rfl⟩|rfl|⟨id,off,m,zs,rfl,_,h1,rfl⟩
 ·rfl
 ·rfl
 ·have:((zs.drop off).take m).length=m:=by simp;omega
  rw[this];rfl
theorem dB.fP {st:ab}{v:AV}{e:TypeId}{xs:List AV}(h:dB st v e xs)(P:Program)(t:TypeId):fP P t v=((elT P t).isSome=true):=by
 rcases h with⟨rfl,rfl⟩|rfl|⟨id,off,m,zs,rfl,_,h1,rfl⟩<;>rfl
theorem dB.read {st:ab}{v:AV}{e:TypeId}{xs:List AV}(h:dB st v e xs):fK st v e xs:=by
 rcases h with h|rfl|h
 ·exact .inr (.inl h)
 ·exact .inl rfl
 ·exact .inr (.inr h)
theorem dQ.more {σ st:ab}{v:AV}{e:TypeId}{xs:List AV}(h:dQ σ st v e xs)(l:ab):dQ σ (st++l) v e xs:=by
 refine⟨?_,h.ext.app l,h.low⟩
 rcases h.row with h1|h1|⟨id,off,m,zs,h1,h2,h3⟩
 ·exact .inl h1
 ·exact .inr (.inl h1)
 ·exact .inr (.inr ⟨id,off,m,zs,h1,by rw[List.getElem?_append_left ((List.getElem?_eq_some_iff.1 h2).1)];exact h2,h3⟩)
theorem dQ.OJ {σ st:ab}{v:AV}{e:TypeId}{xs:List AV}(h:dQ σ st v e xs)(l:ab):Ext σ (bX v st++l):=by
 refine Ext.app ?_ l
 unfold bX
 split
 ·exact h.ext.set (h.low _ rfl) _
 ·exact h.ext
theorem bI.ej {σ:ab}{t u e:TypeId}{x y:AV}{xs ys:List AV}{dst:Option Nat}{k:aa→Prop}(N:Nat)(ho:yn P t u e N=true)(h:dQ σ A.st x e xs)(hy:fK A.st y e ys)(hN:xs.length+ys.length≤N)
  (hk: ∀v st',dQ σ st' v e (xs++ys)→k ((A.put dst v).ar st')):bI P [t,u] [x,y] dst A k .mk:=by
 refine bI.row N ho h.row hy hN (λhe=>hk _ _ (by rw[he,List.append_nil];exact h)) λhe=>hk _ _ ⟨.inr (.inr ⟨A.st.length,0,_,xs++ys,rfl,?_,by simp,by rw[List.drop_zero,List.take_of_length_le (by simp)]⟩),h.OJ _,λid hid=>?_⟩
 ·have:(bX x A.st).length=A.st.length:=by unfold bX;split<;>simp
  rw[←this,List.getElem?_append_right (Nat.le_refl _),Nat.sub_self]
  rfl
 ·cases hid
  exact h.ext.le
theorem dQ.Kh {σ:ab}{v:AV}{e:TypeId}{xs:List AV}{d:Nat}{x:Exit}(h:dQ σ A.st v e xs)(hx:x= .ret∨x= .normal)(hd:A.env d=v):bV (λA=>cT (iE A.env [d]) (.sl e xs)∧A.st.take σ.length=σ) x A:=by
 have fin: ∀{B:aa},cT (iE B.env [d]) (.sl e xs)→B.st.take σ.length=σ→bV (λA=>cT (iE A.env [d]) (.sl e xs)∧A.st.take σ.length=σ) x B:=λh1 h2=>by
  rcases hx with rfl|rfl
  ·exact .ret ⟨h1,h2⟩
  ·exact .normal ⟨h1,h2⟩
 rcases h.row with⟨rfl,rfl⟩|rfl|⟨id,off,m,zs,rfl,h1,h2,rfl⟩
 ·exact fin (by simp only[iE,hd];exact .aA _) h.ext
 ·exact fin (by simp only[iE,hd];exact .lit _ _) h.ext
 ·refine bV.frz d hd h1 h2 (fin ?_ ?_)
  ·simp[iE,aa.upd,aa.ar]
   exact .refl _
  ·exact h.ext.set (h.low _ rfl) _
end
end Go.Av
end
section
namespace Go.Proofs.Tryz
open Go Go.Av
set_option maxRecDepth 10000
variable {W0 :World}
theorem JC (σ:ab)(n:Nat)(hn:n≤1048576):
  bg prog W0 131 [.aA,.int .i64 n] σ λr σ'=>dQ σ σ' r 72 []:=by
 refine cQ [4] [] func131 rfl rfl ntmps131 rfl rfl λhs=>?_
 simp only[go_sem,simprocAttr]
 refine cp.at [0,1] (by kernel_rfl) (λA=>A.st=σ) (λh=>absurd (of_decide_eq_true h) (by omega)) (λ_=>?_) λB hst=>?_
 ·simp only[go_sem,simprocAttr]
 simp only[go_sem,simprocAttr,hst]
 have hw:IntKind.i64.wrap ((n:Int)-0)=n:=by rw[Int.sub_zero,aF (by omega)]
 simp only[hw]
 refine cp.at [] (by kernel_rfl) (λA=>dQ σ A.st (A.env 0) 72 []) (λh=>?_) (λ_=>?_) λB hb=>?_
 ·simp only[go_sem,simprocAttr,hst]
  refine bI.zero (e:=72) 1048576 (by kernel_rfl) (kn:=.i64) (by kernel_rfl) (z:=.aA) (by kernel_rfl) (by kernel_rfl) (by have:=of_decide_eq_true h;omega) hn ?_
  simp only[go_sem,simprocAttr,hst]
  exact⟨Nat.zero_le _,.inr (.inr ⟨_,0,0,List.replicate n .aA,rfl,by simp,by simp,rfl⟩),(Ext.refl _).app _,λid h=>by cases h;exact Nat.le_refl _⟩
 ·simp only[go_sem,simprocAttr,hst]
  exact .nil (.refl _) _
 simp only[go_sem,simprocAttr,hb.ok,hb.un]
 refine bV.ret ?_
 simp only[go_sem,simprocAttr]
 exact⟨_,.refl _,hb.ext.le,hb⟩
theorem nk {α:Type}{ls:List (List α)}{i:Nat}{l:List α}(h:ls[i]?=some l):(ls.take (i+1)).flatten=(ls.take i).flatten++l:=by
 rw[aj h,List.flatten_append];simp
theorem wm (ls:List (List Clause))(hls:ls.length≤1048576)(hn:ls.flatten.length≤1048576):
  ah prog W0 72 [.sl 50 (ls.map av)] (av ls.flatten):=by
 refine kY [2] [] func72 rfl rfl ntmps72 rfl rfl (dL _) λhs σ=>?_
 have hfl: ∀i,(ls.take i).flatten.length≤1048576:=λi=>by
  have:ls.flatten.length=(ls.take i).flatten.length+(ls.drop i).flatten.length:=by
   rw[←List.length_append,←List.flatten_append,List.take_append_drop]
  omega
 simp only[go_sem,simprocAttr,List.length_map]
 refine ae.at [0] (.of (by kernel_rfl)) (λA=>A.env 3= .int .i64 ls.flatten.length∧A.st=σ) ?_ λB ⟨h3,hst⟩=>?_
 ·refine ae.upto [0,9,10] (.of (by kernel_rfl)) ls.length (λi A=>A.env 11= .int .i64 i∧A.st=σ∧A.env 3= .int .i64 (ls.take i).flatten.length) 0 (Nat.zero_le _) ?_ λi B hi ⟨h8,hst,h3⟩=>?_
  ·simp only[go_sem,simprocAttr]
   try simp
  simp only[go_sem,simprocAttr,h8,h3,hst,List.length_map]
  refine⟨λhc=>⟨hc,?_⟩,λhc=>by rw[List.take_of_length_le hc]⟩
  obtain⟨l,hl⟩:=get_some hc
  simp only[an hl]
  have h1:=hfl i
  have h2:=hfl (i+1)
  rw[nk hl,List.length_append]at h2
  have hw:IntKind.i64.wrap (((ls.take i).flatten.length:Int)+(l.length:Int))=(((ls.take (i+1)).flatten.length:Nat):Int):=by
   rw[nk hl,List.length_append,aF (by omega),Int.natCast_add]
  simp only[go_sem,simprocAttr,av,h8,h3,hst,List.length_map,hw]
  exact⟨λh=>absurd h (by omega),λ_=>⟨hc,af hc (by rw[aq];omega)⟩⟩
 simp only[go_sem,simprocAttr,h3,hst]
 refine ak.goes (by simp only[go_sem,simprocAttr,hst]) (JC σ _ hn) λr σ' hr=>?_
 simp only[go_sem,simprocAttr,h3,hst,hr.ok,hr.un,List.length_map]
 refine ae.at [] (.of (by kernel_rfl)) (λA=>∃ v,A.env 6=v∧dQ σ A.st v 72 (ls.flatten.map aB)) ?_ λB ⟨v,h6,hb⟩=>?_
 ·refine ae.upto [25,26] (.of (by kernel_rfl)) ls.length (λi A=>A.env 27= .int .i64 i∧ ∃v,A.env 6=v∧dQ σ A.st v 72 ((ls.take i).flatten.map aB)) 0 (Nat.zero_le _) ?_ λi B hi ⟨h8,v,h6,hb⟩=>?_
  ·simp only[go_sem,simprocAttr]
   exact⟨_,rfl,hr⟩
  simp only[go_sem,simprocAttr,h8,h6,List.length_map]
  refine⟨λhc=>⟨hc,?_⟩,λhc=>⟨_,rfl,by rw[List.take_of_length_le hc]at hb;exact hb⟩⟩
  obtain⟨l,hl⟩:=get_some hc
  have h2:=hfl (i+1)
  rw[nk hl,List.length_append]at h2
  simp only[an hl]
  simp only[go_sem,simprocAttr,av,h8,h6,hb.ok,hb.un,List.length_map]
  refine bI.ej 1048576 (by kernel_rfl) hb (.sl _ _ _) (by rw[List.length_map,List.length_map];exact h2) λv' st' hb'=>?_
  simp only[go_sem,simprocAttr,h8]
  refine⟨hc,af hc (by rw[aq];omega),_,rfl,?_⟩
  rw[nk hl,List.map_append]
  exact hb'
 simp only[go_sem,simprocAttr,h6,hb.ok,hb.un]
 exact dQ.Kh (hb) (.inl rfl) (by simp only[go_sem,simprocAttr])
end Go.Proofs.Tryz
end
section
namespace Go.Av
theorem ak.Ov {P:Program}{W0:World}{A:aa}{g:FuncId}{caps us:List AV}{dst:Option Nat}{k:aa→Prop}{r:AV}{σ:ab}(hσ:A.st=σ)(h:bg P W0 g (us++caps) σ λr' σ'=>r'=r∧σ'=σ)(hk:k (A.put dst r)):ak P W0 (.fn g caps) us dst A k .mk:=.go hσ h λr' σ' ⟨h1,h2⟩=>by
 subst h1 h2 hσ
 rwa [oD]
section
variable {P :Program}
@[go_sem] theorem QA (t t':TypeId)(id i:Nat)(path:List Nat):cr P .neq t (.ptr t' id i path) .nil=if fA P t then .bool true else .undef:=by simp only[cr,cE,ku,AV.gF,Bool.and_true];split<;>rfl
@[go_sem] theorem SZ (t t':TypeId)(id i:Nat)(path:List Nat):cB P .neq t (.ptr t' id i path) .nil=(fA P t=true):=by simp only[cB,cE,ku,AV.gF,Bool.and_true];split<;>simp_all
@[go_sem] theorem R4 (t t':TypeId)(id i:Nat)(path:List Nat):cr P .eql t (.ptr t' id i path) .nil=if fA P t then .bool false else .undef:=by simp only[cr,cE,ku,AV.gF,Bool.and_true];split<;>rfl
@[go_sem] theorem Sc (t t':TypeId)(id i:Nat)(path:List Nat):cB P .eql t (.ptr t' id i path) .nil=(fA P t=true):=by simp only[cB,cE,ku,AV.gF,Bool.and_true];split<;>simp_all
@[go_sem] theorem QT (t:TypeId):cr P .eql t .nil .nil=if fA P t then .bool true else .undef:=by simp only[cr,cE,ku];split<;>rfl
@[go_sem] theorem S4 (t:TypeId):cB P .eql t .nil .nil=(fA P t=true):=by simp only[cB,cE,ku];split<;>simp_all
end
structure Fr (F:List Nat)(σ σ':ab):Prop where
 len:σ.length≤σ'.length
 old: ∀j,j<σ.length→j∉F→σ'[j]?=σ[j]?
def aO :AV→List Nat
 | .own _ _ t=>[t]
 | .row _ id _ _=>[id]
 |_=>[]
theorem Fr.refl (F:List Nat)(σ:ab):Fr F σ σ:=⟨Nat.le_refl _,λ_ _ _=>rfl⟩
theorem Fr.ext {F:List Nat}{σ σ':ab}(h:Ext σ σ'):Fr F σ σ':=⟨h.le,λj hj _=>by
 have e:=congrArg (·[j]?) h
 simpa[List.getElem?_take,hj]using e⟩
theorem Fr.trans {F G:List Nat}{σ σ' σ'':ab}(h:Fr F σ σ')(h':Fr G σ' σ'')(hG: ∀j∈G,j∈F∨σ.length≤j):Fr F σ σ'':=⟨Nat.le_trans h.len h'.len,λj hj hF=>by
 rw[h'.old j (Nat.lt_of_lt_of_le hj h.len) (λe=>by rcases hG j e with h1|h1;exact hF h1;omega),h.old j hj hF]⟩
theorem Fr.set {F:List Nat}{σ σ':ab}(h:Fr F σ σ'){id:Nat}(hid:id∈F∨σ.length≤id)(o:Option c9):Fr F σ (σ'.set id o):=⟨by simpa using h.len,λj hj hF=>by
 rw[List.getElem?_set_ne (λe=>by subst e;rcases hid with h1|h1;exact hF h1;omega),h.old j hj hF]⟩
theorem Fr.app {F:List Nat}{σ σ':ab}(h:Fr F σ σ')(l:ab):Fr F σ (σ'++l):=⟨by have:=h.len;simp;omega,λj hj hF=>by
 rw[List.getElem?_append_left (by have:=h.len;omega),h.old j hj hF]⟩
theorem Fr.mono {F G:List Nat}{σ σ':ab}(h:Fr F σ σ')(hG: ∀j∈F,j∈G):Fr G σ σ':=⟨h.len,λj hj hF=>h.old j hj λe=>hF (hG j e)⟩
theorem Fr.wZ {F:List Nat}{σ σ':ab}(h:Fr F σ σ'){τ:ab}(ht:Ext τ σ)(hF: ∀j∈F,τ.length≤j):Ext τ σ':=by
 refine List.ext_getElem? λi=>?_
 have:=ht.le
 have:=h.len
 rw[List.getElem?_take]
 by_cases hi:i<τ.length
 ·rw[if_pos hi,h.old i (by omega) (λe=>by have:=hF i e;omega)]
  have e:=congrArg (·[i]?) ht
  simpa[List.getElem?_take,hi]using e
 ·rw[if_neg hi,List.getElem?_eq_none (by omega)]
theorem gB {σ:ab}{id:Nat}{te:TypeId}{xs:List AV}(h:id<σ.length):live (σ.set id (some (.cells te xs))) id=True:=eq_true ⟨te,xs,by simp[h]⟩
theorem az {σ:ab}{id:Nat}{te:TypeId}{xs:List AV}(h:σ[id]?=some (some (.cells te xs))):live σ id=True:=eq_true ⟨te,xs,h⟩
theorem Bld.notM {st:ab}{v:AV}{e:TypeId}{xs:List AV}(h:Bld st v e xs):cY v:=by
 rcases h with⟨rfl,rfl⟩|rfl|⟨t,rfl,_⟩<;>trivial
theorem Bld.ok {st:ab}{v:AV}{e:TypeId}{xs:List AV}(h:Bld st v e xs)(g:Option Bool):okM g v=True:=bY h.notM
theorem Bld.un {st:ab}{v:AV}{e:TypeId}{xs:List AV}(h:Bld st v e xs):unm v=v:=cH h.notM
theorem Bld.len {st:ab}{v:AV}{e:TypeId}{xs:List AV}(h:Bld st v e xs):mZ v= .int .i64 xs.length:=by
 rcases h with⟨rfl,rfl⟩|rfl|⟨t,rfl,_⟩<;>rfl
theorem Bld.fP {st:ab}{v:AV}{e:TypeId}{xs:List AV}(h:Bld st v e xs)(P:Program)(t:TypeId):fP P t v=((elT P t).isSome=true):=by
 rcases h with⟨rfl,rfl⟩|rfl|⟨t,rfl,_⟩<;>rfl
theorem Bld.fits {st:ab}{v:AV}{e:TypeId}{xs:List AV}(h:Bld st v e xs)(P:Program)(t:TypeId):bp P t v=cM P t:=by
 rcases h with⟨rfl,rfl⟩|rfl|⟨t,rfl,_⟩<;>rfl
theorem dB.fits {st:ab}{v:AV}{e:TypeId}{xs:List AV}(h:dB st v e xs)(P:Program)(t:TypeId):bp P t v=cM P t:=by
 rcases h with⟨rfl,rfl⟩|rfl|⟨_,_,_,_,rfl,_⟩<;>rfl
theorem dB.notM {st:ab}{v:AV}{e:TypeId}{xs:List AV}(h:dB st v e xs):cY v:=by
 rcases h with⟨rfl,rfl⟩|rfl|⟨_,_,_,_,rfl,_⟩<;>trivial
theorem dB.ok {st:ab}{v:AV}{e:TypeId}{xs:List AV}(h:dB st v e xs)(g:Option Bool):okM g v=True:=bY h.notM
theorem dB.un {st:ab}{v:AV}{e:TypeId}{xs:List AV}(h:dB st v e xs):unm v=v:=cH h.notM
theorem bI.sg {P:Program}{A:aa}{σ:ab}{t u e:TypeId}{x y:AV}{xs ys:List AV}{dst:Option Nat}{k:aa→Prop}(hσ:A.st=σ)(N:Nat)(ho:yn P t u e N=true)(hb:Bld σ x e xs)(hy:fK σ y e ys)(hN:xs.length+ys.length≤N)
  (hk: ∀v σ',App σ x e (xs++ys) v σ'→k ((A.put dst v).ar σ')):bI P [t,u] [x,y] dst A k .mk:=by
 subst hσ
 exact .own N ho hb hy hN hk
def db (σ:ab)(x:AV)(e:TypeId)(xs:List AV):Prop:=(x= .aA∧xs=[])∨ ∃id off m zs,x= .row e id off m∧σ[id]?=some (some (.cells e zs))∧off+m≤zs.length∧xs=(zs.drop off).take m
theorem db.st {σ:ab}{v:AV}{e:TypeId}{xs:List AV}(h:db σ v e xs):dB σ v e xs:=by
 rcases h with h|h
 ·exact .inl h
 ·exact .inr (.inr h)
def sx (a b:Nat):AV→AV
 | .row e id off _=>.row e id (off+a) (b-a)
 |v=>v
@[go_sem] theorem TA (a b:Nat)(e:TypeId)(id off m:Nat):sx a b (.row e id off m)= .row e id (off+a) (b-a):=rfl
@[go_sem] theorem R7 (a b:Nat):sx a b .aA= .aA:=rfl
theorem db.zC {σ:ab}{e:TypeId}{xs:List AV}{id off m:Nat}{zs:List AV}(h:off+m≤zs.length)(hx:xs=(zs.drop off).take m):xs.length=m:=by
 rw[hx];simp;omega
theorem db.F1 {σ:ab}{v:AV}{e:TypeId}{xs:List AV}(h:db σ v e xs)(A:aa)(lo hi:Option Operand):kE A lo hi v=sx (df A 0 lo) (df A xs.length hi) v:=by
 rcases h with⟨rfl,rfl⟩|⟨id,off,m,zs,rfl,h1,h2,h3⟩
 ·rfl
 ·rw[db.zC (σ:=σ) (e:=e) (id:=id) h2 h3];rfl
theorem db.kT {P:Program}{gd:Option Bool}{σ:ab}{v:AV}{e:TypeId}{xs:List AV}(h:db σ v e xs){t:TypeId}(ht:elT P t=some e)(A:aa)(lo hi:Option Operand):jJ P gd A t lo hi v=(0<ag P e∧Go.Av.kT gd A lo hi xs.length):=by
 rcases h with⟨rfl,rfl⟩|⟨id,off,m,zs,rfl,h1,h2,h3⟩
 ·rw[zV,ht]
  simp only[Option.isSome_some,true_and,Option.getD_some,Go.Av.kT,List.length_nil,Nat.le_zero]
  have:imp gd (df A 0 lo=0∧df A 0 hi=0)=imp gd (df A 0 lo≤df A 0 hi∧df A 0 hi=0):=by
   congr 1
   refine propext ⟨λ⟨h1,h2⟩=>⟨by omega,h2⟩,λ⟨h1,h2⟩=>⟨by omega,h2⟩⟩
  rw[this]
 ·rw[CH,ht,db.zC (σ:=σ) (e:=e) (id:=id) h2 h3]
  simp
theorem db.cut {σ:ab}{v:AV}{e:TypeId}{xs:List AV}(h:db σ v e xs){a b:Nat}(hab:a≤b)(hb:b≤xs.length):db σ (sx a b v) e ((xs.drop a).take (b-a)):=by
 rcases h with⟨rfl,rfl⟩|⟨id,off,m,zs,rfl,h1,h2,h3⟩
 ·exact .inl ⟨rfl,by simp⟩
 ·have hl:=db.zC (σ:=σ) (e:=e) (id:=id) h2 h3
  refine .inr ⟨id,off+a,b-a,zs,rfl,h1,by omega,?_⟩
  rw[h3,List.drop_take,List.drop_drop,List.take_take,Nat.min_eq_left (by omega)]
theorem nt (a b:Nat)(v:AV):aO (sx a b v)=aO v:=by cases v<;>rfl
theorem db.ei {st st':ab}{v:AV}{e:TypeId}{xs:List AV}(h:db st v e xs)(hk: ∀j∈aO v,st'[j]?=st[j]?):db st' v e xs:=by
 rcases h with h|⟨id,off,m,zs,rfl,h,h2⟩
 ·exact .inl h
 ·exact .inr ⟨id,off,m,zs,rfl,by rw[hk id (by simp[aO]),h],h2⟩
theorem db.lt {st:ab}{v:AV}{e:TypeId}{xs:List AV}(h:db st v e xs): ∀j∈aO v,j<st.length:=by
 rcases h with⟨rfl,_⟩|⟨id,off,m,zs,rfl,h,_⟩
 ·simp[aO]
 ·intro j hj;simp[aO]at hj;subst hj;exact(List.getElem?_eq_some_iff.1 h).1
theorem db.ne {st:ab}{v:AV}{e te:TypeId}{xs ys:List AV}(h:db st v e xs){id:Nat}(hid:st[id]?=some (some (.cells te ys)))(ht:te≠e):id∉aO v:=λhj=>by
 rcases h with⟨rfl,_⟩|⟨id',off,m,zs,rfl,h,_⟩
 ·simp[aO]at hj
 ·simp[aO]at hj;subst hj;rw[hid]at h;cases h;exact ht rfl
structure Ea (σ:ab)(x:AV)(e:TypeId)(zs:List AV)(v:AV)(σ':ab):Prop where
 row:db σ' v e zs
 fr:Fr (aO x) σ σ'
 aO: ∀j∈aO v,j∈aO x∨σ.length≤j
theorem bI.oz {P:Program}{A:aa}{σ:ab}{t u e:TypeId}{x y:AV}{xs ys:List AV}{dst:Option Nat}{k:aa→Prop}(hσ:A.st=σ)(N:Nat)(ho:yn P t u e N=true)(hb:db σ x e xs)(hy:fK σ y e ys)(hN:xs.length+ys.length≤N)
  (hk: ∀v σ',Ea σ x e (xs++ys) v σ'→k ((A.put dst v).ar σ')):bI P [t,u] [x,y] dst A k .mk:=by
 subst hσ
 have hkl:(bX x A.st).length=A.st.length:=by unfold bX;split<;>simp
 refine bI.row N ho hb.st hy hN (λhe=>hk _ _ ⟨by rw[he,List.append_nil];exact hb,.refl _ _,λj hj=>.inl hj⟩) λhe=>hk _ _ ⟨.inr ⟨A.st.length,0,_,xs++ys,rfl,?_,by simp,by rw[List.drop_zero,List.take_of_length_le (by simp)]⟩,?_,λj hj=>?_⟩
 ·rw[←hkl,List.getElem?_append_right (Nat.le_refl _),Nat.sub_self]
  rfl
 ·refine Fr.app ?_ _
  unfold bX
  split
  ·exact(Fr.refl _ _).set (.inl (by simp[Go.Av.aO])) _
  ·exact .refl _ _
 ·simp[Go.Av.aO]at hj
  subst hj
  exact .inr (Nat.le_refl _)
theorem Bld.cy {st:ab}{v:AV}{e:TypeId}{xs:List AV}(h:Bld st v e xs):cT v (.sl e xs):=by
 rcases h with⟨rfl,rfl⟩|rfl|⟨t,rfl,_⟩
 ·exact .aA _
 ·exact .lit _ _
 ·exact .own _ _ _
theorem App.fr {σ σ':ab}{x v:AV}{e:TypeId}{zs:List AV}(h:App σ x e zs v σ'):Fr (aO x) σ σ':=⟨h.len,λj hj hF=>h.old j hj λe=>hF (by cases x<;>simp[ff]at e;subst e;simp[aO])⟩
theorem zK {st:ab}{v:AV}{e:TypeId}{xs:List AV}(h:Bld st v e xs){j:Nat}:j∈aO v↔ff v=some j:=by
 rcases h with⟨rfl,rfl⟩|rfl|⟨t,rfl,_⟩
 ·simp[aO,ff]
 ·simp[aO,ff]
 ·simp[aO,ff];exact eq_comm
theorem App.aO {σ σ':ab}{x v:AV}{e:TypeId}{zs xs:List AV}(h:App σ x e zs v σ')(hx:Bld σ x e xs): ∀j∈aO v,j∈aO x∨σ.length≤j:=λj hj=>by
 rw[zK h.bld]at hj
 rw[zK hx]
 rcases h.tok with e1|⟨t,e1,e2⟩
 ·left;rw[←e1];exact hj
 ·right;rw[e1]at hj;cases hj;exact e2
theorem Bld.ei {st st':ab}{v:AV}{e:TypeId}{xs:List AV}(h:Bld st v e xs)(hk: ∀j∈aO v,st'[j]?=st[j]?):Bld st' v e xs:=by
 rcases h with h|h|⟨t,rfl,h⟩
 ·exact .inl h
 ·exact .inr (.inl h)
 ·exact .inr (.inr ⟨t,rfl,by rw[hk t (by simp[aO]),h]⟩)
theorem Bld.lt {st:ab}{v:AV}{e:TypeId}{xs:List AV}(h:Bld st v e xs): ∀j∈aO v,j<st.length:=by
 rcases h with⟨rfl,_⟩|rfl|⟨t,rfl,h⟩
 ·simp[aO]
 ·simp[aO]
 ·intro j hj;simp[aO]at hj;subst hj;exact(List.getElem?_eq_some_iff.1 h).1
theorem Bld.ne {st:ab}{v:AV}{e:TypeId}{xs:List AV}(h:Bld st v e xs){id:Nat}{o:c9}(hid:st[id]?=some (some o))(ho:o≠ .tok):id∉aO v:=λhj=>by
 rcases h with⟨rfl,_⟩|rfl|⟨t,rfl,h⟩
 ·simp[aO]at hj
 ·simp[aO]at hj
 ·simp[aO]at hj;subst hj;rw[hid]at h;cases h;exact ho rfl
theorem dB.ei {st st':ab}{v:AV}{e:TypeId}{xs:List AV}(h:dB st v e xs)(hk: ∀j∈aO v,st'[j]?=st[j]?):dB st' v e xs:=by
 rcases h with h|h|⟨id,off,m,zs,rfl,h,h2⟩
 ·exact .inl h
 ·exact .inr (.inl h)
 ·exact .inr (.inr ⟨id,off,m,zs,rfl,by rw[hk id (by simp[aO]),h],h2⟩)
theorem dB.lt {st:ab}{v:AV}{e:TypeId}{xs:List AV}(h:dB st v e xs): ∀j∈aO v,j<st.length:=by
 rcases h with⟨rfl,_⟩|rfl|⟨id,off,m,zs,rfl,h,_⟩
 ·simp[aO]
 ·simp[aO]
 ·intro j hj;simp[aO]at hj;subst hj;exact(List.getElem?_eq_some_iff.1 h).1
def zR (M:Nat→Bool)(l:Int):Bool:=if 0<l then M l.natAbs else !M l.natAbs
def vf (M:Nat→Bool)(c:List Int):Bool:=c.any (zR M)
def gv (M:Nat→Bool)(cls:List (List Int)):Bool:=cls.all (vf M)
def wfL (n:Nat)(l:Int):Bool:=decide (l≠0)&&decide (l.natAbs≤n)
def wfC (n:Nat)(c:List Int):Bool:=c.all (wfL n)
theorem zn {M:Nat→Bool}{l:Int}(h:l≠0):zR M (-l)= !zR M l:=by
 unfold zR
 rw[Int.natAbs_neg]
 by_cases h1:0<l
 ·rw[if_pos h1,if_neg (by omega)]
 ·rw[if_neg h1,if_pos (by omega),Bool.not_not]
theorem wi {M:Nat→Bool}{c d:List Int}(h: ∀l,l∈c↔l∈d):vf M c=vf M d:=by
 unfold vf
 rw[Bool.eq_iff_iff,List.any_eq_true,List.any_eq_true]
 exact⟨λ⟨l,h1,h2⟩=>⟨l,(h l).1 h1,h2⟩,λ⟨l,h1,h2⟩=>⟨l,(h l).2 h1,h2⟩⟩
end Go.Av
end
section
namespace Go.Proofs.Tryz
open Go Go.Av
set_option maxRecDepth 10000
variable {W0 :World}
theorem NF {α:Type}(enc:α→AV)(hp: ∀a,cY (enc a))(l:List α)(q:α→Bool)(g:FuncId)(caps:List AV)(σ:ab)(h: ∀a∈l,bg prog W0 g ([enc a]++caps) σ λr σ'=>r= .bool (q a)∧σ'=σ):
  bg prog W0 195 [.sl 135 (l.map enc),.fn g caps] σ λr σ'=>r= .int .i64 (eR q l)∧σ'=σ:=by
 refine r8 [4] [] func195 rfl rfl ntmps195 rfl rfl (.int _ _) λhs=>?_
 have hl:=(aC (hs _ (List.mem_cons_self ..))).1
 simp only[go_sem,simprocAttr]
 refine ae.upto [0,1,7] (.of (by kernel_rfl)) l.length (λi A=>A.env 8= .int .i64 i∧A.st=σ∧ ∀a∈l.take i,q a=false) 0 (Nat.zero_le _) ?_ λi B hi ⟨h8,hst,hI⟩=>?_
 ·simp only[go_sem,simprocAttr]
  all_goals simp
 simp only[go_sem,simprocAttr,h8,hst,List.length_map]
 refine⟨λhc=>⟨hc,?_⟩,λhc=>bV.ret ?_⟩
 ·obtain⟨a,ha⟩:=get_some hc
  simp only[an ha,bY (hp a),cH (hp a),true_and]
  refine ak.Ov (by simp only[go_sem,simprocAttr,hst]) (h a (List.mem_of_getElem? ha)) ?_
  simp only[go_sem,simprocAttr,h8,hst]
  refine⟨λhq=>bV.ret ?_,λhq=>⟨hc,af hc hl,?_⟩⟩
  ·simp only[go_sem,simprocAttr,hst]
   exact aw (eQ ha hq hI).symm
  rw[aj ha]
  intro b hb
  rcases List.mem_append.1 hb with hb|hb
  ·exact hI b hb
  ·rw[List.mem_singleton.1 hb];exact hq
 ·simp only[go_sem,simprocAttr,hst]
  rw[dp (by rwa [List.take_of_length_le hc]at hI)]
  exact .refl _
theorem NA {α:Type}(enc:α→AV)(hp: ∀a,cY (enc a))(l:List α)(q:α→Bool)(g:FuncId)(caps:List AV)(σ:ab)(h: ∀a∈l,bg prog W0 g ([enc a]++caps) σ λr σ'=>r= .bool (q a)∧σ'=σ):
  bg prog W0 139 [.sl 135 (l.map enc),.fn g caps] σ λr σ'=>r= .bool (l.any q)∧σ'=σ:=by
 refine r8 [4] [] func139 rfl rfl ntmps139 rfl rfl (.bool _) λhs=>?_
 simp only[go_sem,simprocAttr]
 refine ak.reads (by simp only[go_sem,simprocAttr]) (NF enc hp l q g caps σ h) ?_
 simp only[go_sem,simprocAttr]
 refine bV.ret ?_
 simp only[go_sem,simprocAttr]
 rw[jl]
 exact .refl _
theorem mg (l:Int)(h:l.natAbs≤9223372036854775807):ah prog W0 185 [.int .i64 l] (.int .u64 (l.natAbs:Nat)):=by
 refine al [2] [] func185 rfl rfl ntmps185 rfl rfl (.int _ _) λhs σ=>?_
 simp only[go_sem,simprocAttr]
 refine⟨λh0=>aw ?_,λh0=>aw ?_⟩
 ·rw[IntKind.wrap_u64,IntKind.wrap_u64];omega
 ·rw[IntKind.wrap_u64];omega
def eO (c:List Int):AV:=.sl 135 (c.map (.int .i64))
def AW (l:List (List Int)):AV:=.sl 136 (l.map eO)
theorem cY.int64 (n:Int):cY (AV.int .i64 n):=trivial
theorem cY.lits (c:List Int):cY (eO c):=trivial
@[go_sem] theorem NB (g:Option Bool)(l:List Int):okM g (eO l)=True:=eq_true trivial
@[go_sem] theorem Nf (l:List Int):unm (eO l)=eO l:=rfl
@[go_sem] theorem Ka (P:Program)(t:TypeId)(l:List Int):bp P t (eO l)=cM P t:=rfl
def um (n:Nat)(cv:AV):Option c9:=some (.cells 191 [.agg 191 [.int .i64 n,cv]])
theorem KH (σ:ab)(id n:Nat)(cv:AV)(hid:σ[id]?=some (um n cv))(hn:n≤9223372036854775807)(l:Int)(hl:l.natAbs≤9223372036854775807):
  bg prog W0 184 [.int .i64 l,.loc 130 (.ptr 191 id 0 [])] σ λr σ'=>r= .bool (!wfL n l)∧σ'=σ:=by
 refine r8 [3] [] func184 rfl rfl ntmps184 rfl rfl (.bool _) λhs=>?_
 simp only[go_sem,simprocAttr]
 refine⟨.of (by kernel_rfl),ay.fnG (λ_=>mg l hl) ?_⟩
 simp only[go_sem,simprocAttr,ax hid]
 refine bV.ret ?_
 simp only[go_sem,simprocAttr]
 refine ai ?_
 have hw:IntKind.u64.wrap (n:Int)=n:=by rw[IntKind.wrap_u64];omega
 rw[hw,wfL,Bool.not_and,←decide_not,←decide_not]
 congr 1
 ·rw[Bool.eq_iff_iff];simp
 ·exact decide_eq_decide.2 (by omega)
theorem Nw (σ:ab)(id n:Nat)(cv:AV)(cls:List (List Int))(hid:σ[id]?=some (um n cv))(hb:Bld σ cv 136 (cls.map eO))(hn:n≤9223372036854775807)(hc5:cls.length<5000)(c:List Int)(hc: ∀l∈c,l.natAbs≤9223372036854775807):
  bg prog W0 134 [.ptr 191 id 0 [],eO c] σ λr σ'=>r= .bool (wfC n c)∧σ'=σ:=by
 refine r8 [4] [2] func134 rfl rfl ntmps134 rfl rfl (.bool _) λhs=>?_
 have h5:decide ((cls.length:Int)<5000)=true:=decide_eq_true (by omega)
 simp only[go_sem,simprocAttr,ax hid,hb.ok,hb.un,hb.len,hb.fP,List.length_map,h5]
 refine ay.st (λ_=>NA (.int .i64) cY.int64 c (λl=>!wfL n l) _ [.loc 130 (.ptr 191 id 0 [])] σ λl hl=>KH σ id n cv hid hn l (hc l hl)) ?_
 simp only[go_sem,simprocAttr]
 refine bV.ret ?_
 simp only[go_sem,simprocAttr]
 refine ai ?_
 rw[wfC,List.all_eq_not_any_not]
theorem zd (σ:ab)(c:List Int)(h0:c≠[])(hl:c.length≤1048576):bg prog W0 186 [eO c] σ λr σ'=>r= .row 135 σ.length 0 c.length∧σ'=σ++[some (.cells 135 (c.map (.int .i64)))]:=by
 refine cQ [2] [] func186 rfl rfl ntmps186 rfl rfl λhs=>?_
 cases c with
 |nil=>exact absurd rfl h0
 |cons x c=>
  simp only[go_sem,simprocAttr,eO]
  refine bI.row 1048576 (by kernel_rfl) (.inr (.inl rfl)) (.sl _ _ _) (by simpa using hl) (λh=>by cases h) λ_=>?_
  simp only[go_sem,simprocAttr]
  refine bV.ret ?_
  simp only[go_sem,simprocAttr]
  exact⟨_,.refl _,by simp[bX],by simp,rfl⟩
end Go.Proofs.Tryz
end
section
namespace Go.Proofs.Tryz
open Go Go.Av
set_option maxRecDepth 10000
variable {W0 :World}
def ints (ys:List Int):Option c9:=some (.cells 135 (ys.map (.int .i64)))
def VM (σ st:ab)(id:Nat)(xs:List Int):Prop:=∃ ys:List Int,ys.Perm xs∧st=σ.set id (ints ys)
end Go.Proofs.Tryz
end
section
namespace Go.Proofs.Tryz
open Go Go.Av
set_option maxRecDepth 10000
variable {W0 :World}
def zE (σ st:ab)(id:Nat)(xs:List Int):Prop:=(∃ys:List Int,ys.Perm xs∧st[id]?=some (ints ys))∧Fr [id] σ st
theorem zE.of {σ st:ab}{id:Nat}{xs:List Int}(hid:id<σ.length)(h:VM σ st id xs):zE σ st id xs:=by
 obtain⟨ys,hp,rfl⟩:=h
 exact⟨⟨ys,hp,List.getElem?_set_self hid⟩,⟨by simp,λj hj hn=>List.getElem?_set_ne λe=>hn (by simp[e])⟩⟩
theorem zE.step {σ τ st:ab}{id:Nat}{xs ys:List Int}(h1:Fr [id] σ τ)(hy:ys.Perm xs)(h2:zE τ st id ys):zE σ st id xs:=by
 obtain⟨⟨zs,hz,hs⟩,hf⟩:=h2
 exact⟨⟨zs,hz.trans hy,hs⟩,⟨Nat.le_trans h1.len hf.len,λj hj hn=>by rw[hf.old j (Nat.lt_of_lt_of_le hj h1.len) hn,h1.old j hj hn]⟩⟩
end Go.Proofs.Tryz
end
section
namespace Go.Proofs.Tryz
open Go Go.Av
set_option maxRecDepth 10000
variable {W0 :World}
theorem N4 (σ:ab)(n:Nat)(hn:n≤200):bg prog W0 71 [.int .i64 n] σ λr σ'=>r= .ptr 191 σ.length 0 []∧σ'=σ++[um n .aA]:=by
 refine cQ [2] [] func71 rfl rfl ntmps71 rfl rfl λhs=>?_
 have e1:sy (n:Int) 200=n:=by unfold sy;split<;>omega
 have e2:zm 0 (n:Int)=n:=by unfold zm;split<;>omega
 simp only[go_sem,simprocAttr,e1,e2]
 refine bV.ret ?_
 simp only[go_sem,simprocAttr]
 exact⟨_,.refl _,by simp,rfl,rfl⟩
end Go.Proofs.Tryz
end
section
namespace Go.Av
def vl (ord:List Int)(l:Int):Int:=if l∈ord then 1 else if-l∈ord then-1 else 0
structure dZ (n:Nat)(ord:List Int):Prop where
 nd:(ord.map Int.natAbs).Nodup
 wf: ∀l∈ord,l≠0∧l.natAbs≤n
theorem dZ.cons {n:Nat}{ord:List Int}(h:dZ n ord){l:Int}(hl:l∈ord): -l∉ord:=λhn=>by
 have h0:=(h.wf l hl).1
 obtain⟨i,hi,he⟩:=List.getElem_of_mem hl
 obtain⟨j,hj,he'⟩:=List.getElem_of_mem hn
 have:i=j:=(List.getElem_inj (i:=i) (j:=j) (h₀:=by simpa using hi) (h₁:=by simpa using hj) h.nd).1 (by simp[he,he'])
 subst this
 rw[he]at he'
 omega
theorem tg (ord:List Int)(l:Int):(vl ord l=1∧l∈ord)∨(vl ord l= -1∧l∉ord∧ -l∈ord)∨(vl ord l=0∧l∉ord∧ -l∉ord):=by
 unfold vl
 by_cases h1:l∈ord
 ·left;simp[h1]
 ·by_cases h2: -l∈ord
  ·right;left;simp[h1,h2]
  ·right;right;simp[h1,h2]
theorem dZ.nil (n:Nat):dZ n []:=⟨by simp,by simp⟩
theorem dZ.app {n:Nat}{ord:List Int}(h:dZ n ord){l:Int}(h0:l≠0)(hn:l.natAbs≤n)(hv:vl ord l=0):dZ n (ord++[l]):=by
 refine⟨?_,λm hm=>?_⟩
 ·rw[List.map_append,List.nodup_append]
  refine⟨h.nd,by simp,λa ha b hb=>?_⟩
  obtain⟨m,hm,rfl⟩:=List.mem_map.1 ha
  simp at hb
  subst hb
  intro e
  rcases tg ord l with⟨h1,h2⟩|⟨h1,h2⟩|⟨h1,h2,h3⟩
  ·omega
  ·omega
  ·rcases Int.natAbs_eq_natAbs_iff.1 e with e|e
   ·exact h2 (e▸hm)
   ·exact h3 (e▸hm)
 ·rcases List.mem_append.1 hm with h1|h1
  ·exact h.wf m h1
  ·rw[List.mem_singleton.1 h1];exact⟨h0,hn⟩
theorem dZ.take {n:Nat}{ord:List Int}(h:dZ n ord)(k:Nat):dZ n (ord.take k):=⟨by rw[List.map_take];exact List.Nodup.sublist (List.take_sublist _ _) h.nd,λl hl=>h.wf l (List.mem_of_mem_take hl)⟩
theorem dZ.sub {n:Nat}{o p:List Int}(h:dZ n p)(hs:o.Sublist p):dZ n o:=⟨List.Nodup.sublist (hs.map _) h.nd,λl hl=>h.wf l (hs.subset hl)⟩
theorem zy : ∀(n:Nat) (l:List Nat),l.Nodup→(∀x∈l,x<n)→l.length≤n
 |0,l,_,h=>by
  cases l with
  |nil=>simp
  |cons x l=>exact absurd (h x (by simp)) (by omega)
 |n+1,l,hd,h=>by
  have:=zy n (l.erase n) (hd.erase n) λx hx=>by
   have h1:=(List.Nodup.mem_erase_iff hd).1 hx
   have:=h x h1.2
   have:=h1.1
   omega
  rw[List.length_erase]at this
  split at this<;>omega
theorem dZ.len {n:Nat}{ord:List Int}(h:dZ n ord):ord.length≤n:=by
 have:=zy (n+1) (0::ord.map Int.natAbs) (List.nodup_cons.2 ⟨λh0=>by
  obtain⟨l,hl,e⟩:=List.mem_map.1 h0
  exact(h.wf l hl).1 (Int.natAbs_eq_zero.1 e),h.nd⟩) λx hx=>by
   rcases List.mem_cons.1 hx with rfl|hx
   ·omega
   ·obtain⟨l,hl,rfl⟩:=List.mem_map.1 hx
    have:=(h.wf l hl).2
    omega
 simp at this
 exact this
def Agr (M:Nat→Bool)(ord:List Int):Prop:=∀ l∈ord,zR M l=true
theorem Agr.neg {M:Nat→Bool}{n:Nat}{ord:List Int}(h:Agr M ord)(hg:dZ n ord){l:Int}(hv:vl ord l= -1):zR M l=false:=by
 rcases tg ord l with⟨h1,_⟩|⟨_,_,h2⟩|⟨h1,_⟩
 ·omega
 ·have h0:=(hg.wf _ h2).1
  have:=h _ h2
  rw[zn (by omega)]at this
  simpa using this
 ·omega
def GM (ord c:List Int):Bool:=!c.any λl=>decide (0≤vl ord l)
end Go.Av
end
section
namespace Go.Proofs.Tryz
open Go Go.Av
set_option maxRecDepth 10000
variable {W0 :World}
variable {σ :ab}{tid vid n:Nat}{cv ov lv:AV}{cls:List (List Int)}{ord:List Int}{lev:List Nat}
theorem db.at {st:ab}{v:AV}{e:TypeId}{xs:List AV}{i:Nat}{x:AV}(h:db st v e xs)(hx:xs[i]?=some x): ∃id off m zs,v= .row e id off m∧st[id]?=some (some (.cells e zs))∧m=xs.length∧zs[off+i]?=some x:=by
 rcases h with⟨_,rfl⟩|⟨id,off,m,zs,rfl,h1,h2,h3⟩
 ·simp at hx
 ·refine⟨id,off,m,zs,rfl,h1,(db.zC (σ:=st) (e:=e) (id:=id) h2 h3).symm,?_⟩
  rw[h3,List.getElem?_take,List.getElem?_drop]at hx
  split at hx
  ·exact hx
  ·cases hx
end Go.Proofs.Tryz
end
section
namespace Go.Proofs.Tryz
open Go Go.Av
set_option maxRecDepth 10000
variable {W0 :World}
variable {σ :ab}{tid vid n:Nat}{cv ov lv:AV}{cls:List (List Int)}{ord:List Int}{lev:List Nat}
structure Own (τ:ab)(tid:Nat)(cv:AV)(vid:Nat)(ov lv:AV):Prop where
 tid:τ.length≤tid
 vid:τ.length≤vid
 cv: ∀j∈aO cv,τ.length≤j
 ov: ∀j∈aO ov,τ.length≤j
 lv: ∀j∈aO lv,τ.length≤j
end Go.Proofs.Tryz
end
section
namespace Go.Av
def EY (ord:List Int)(stk:List (Nat×Int))(M:Nat→Bool):Prop:=∃ p∈stk,0<p.2∧Agr M (ord.take p.1)∧zR M p.2=true
def tf (n:Nat)(cls:List (List Int))(ord:List Int):Nat→List (Nat×Int)→Prop
 |lo,[]=>lo≤ord.length
 |lo,p::r=>lo≤p.1∧p.1<ord.length∧p.2≠0∧p.2.natAbs≤n∧vl (ord.take p.1) p.2=0∧cls.any (GM (ord.take p.1))=false∧tf n cls ord (p.1+1) r
theorem tf.app {n:Nat}{cls:List (List Int)}{ord:List Int}{k:Nat}{d:Int}{o2:List Int}: ∀{lo:Nat} {stk:List (Nat×Int)},tf n cls ord lo stk→(∀i,i≤ord.length→o2.take i=ord.take i)→k=ord.length→k<o2.length→d≠0→d.natAbs≤n→vl ord d=0→cls.any (GM ord)=false→tf n cls o2 lo (stk++[(k,d)])
 |lo,[],h,ho,hk,hk2,h0,hn,hv,hc=>by
  have e:o2.take k=ord:=by rw[ho k (by omega),hk,List.take_length]
  refine⟨by rw[hk];exact h,hk2,h0,hn,by show vl (o2.take k) d=0;rw[e];exact hv,by show cls.any (GM (o2.take k))=false;rw[e];exact hc,?_⟩
  show k+1≤o2.length
  omega
 |lo,p::r,⟨h1,h2,h3,h4,h5,h6,h7⟩,ho,hk,hk2,h0,hn,hv,hc=>⟨h1,by omega,h3,h4,by rw[ho _ (by omega)];exact h5,by rw[ho _ (by omega)];exact h6,h7.app ho hk hk2 h0 hn hv hc⟩
theorem tf.le {n:Nat}{cls:List (List Int)}{ord:List Int}: ∀{lo:Nat} {stk:List (Nat×Int)},tf n cls ord lo stk→lo+stk.length≤ord.length
 |lo,[],h=>by simp only[tf]at h;simpa using h
 |lo,p::r,⟨h1,_,_,_,_,_,h7⟩=>by have:=h7.le;simp;omega
theorem EY.take {ord:List Int}{stk:List (Nat×Int)}{M:Nat→Bool}{k:Nat}(hk: ∀p∈stk,p.1≤k)(h:EY ord stk M):EY (ord.take k) stk M:=by
 obtain⟨p,h1,h2,h3,h4⟩:=h
 exact⟨p,h1,h2,by rw[List.take_take,Nat.min_eq_left (hk p h1)];exact h3,h4⟩
theorem EY.more {ord o2:List Int}{stk:List (Nat×Int)}{M:Nat→Bool}(ho: ∀p∈stk,o2.take p.1=ord.take p.1)(h:EY ord stk M)(q:List (Nat×Int)):EY o2 (stk++q) M:=by
 obtain⟨p,h1,h2,h3,h4⟩:=h
 exact⟨p,by simp[h1],h2,by rw[ho p h1];exact h3,h4⟩
end Go.Av
end
section
namespace Go.Proofs.Tryz
open Go Go.Av
set_option maxRecDepth 10000
variable {W0 :World}
variable {τ σ:ab}{xid tid vid n:Nat}{cv ov lv dv:AV}{z:Int}{cls:List (List Int)}{ord dec asm:List Int}{lev lev0:List Nat}{stk:List (Nat×Int)}{base:Nat}
structure Mc (n:Nat)(cls:List (List Int)):Prop where
 small:n≤200
 len:cls.length≤5000
 wf: ∀c∈cls,c≠[]∧c.length≤1048576∧ ∀l∈c,l≠0∧l.natAbs≤n
theorem LF {n:Nat}{l:Int}:wfL n l=true↔l≠0∧l.natAbs≤n:=by simp[wfL]
end Go.Proofs.Tryz
end
section
namespace Go.Av
def eS (i:Nat):Int:=((i+1:Nat):Int)
def iB (c:Clause):Nat→List Pkg→List Int
 |_,[]=>[]
 |i,q::r=>(if c.any (di q)=true then [eS i]else [])++iB c (i+1) r
def vv (all:List Pkg)(i:Nat)(c:Clause):List Int:=-eS i::iB c 0 all
def yt (p:Pkg)(i:Nat):Nat→List Pkg→List (List Int)
 |_,[]=>[]
 |k,q::r=>(if (p.name==q.name||eP p q)=true then [[-eS i,-eS k]]else [])++yt p i (k+1) r
def NH (all:List Pkg)(i:Nat)(p:Pkg):List (List Int):=(p.pre++p.dep).map (vv all i)++yt p i 0 (all.take i)
def sB (all:List Pkg):Nat→List Pkg→List (List Int)
 |_,[]=>[]
 |i,p::r=>NH all i p++sB all (i+1) r
theorem wC {c:Clause}: ∀{i:Nat} {l:List Pkg} {x:Int},x∈iB c i l→ ∃k q,l[k]?=some q∧x=eS (i+k)
 |i,[],x,h=>by simp[iB]at h
 |i,q::r,x,h=>by
  rw[iB,List.mem_append]at h
  rcases h with h|h
  ·split at h
   ·simp at h;exact⟨0,q,rfl,by simpa using h⟩
   ·simp at h
  ·obtain⟨k,q',h1,h2⟩:=wC h
   exact⟨k+1,q',by simpa using h1,by rw[h2];congr 1;omega⟩
theorem mL {c:Clause}: ∀(i:Nat) (l:List Pkg),(iB c i l).Nodup∧ ∀x∈iB c i l,eS i≤x
 |i,[]=>by simp[iB]
 |i,q::r=>by
  obtain⟨h1,h2⟩:=mL (c:=c) (i+1) r
  rw[iB]
  refine⟨List.nodup_append.2 ⟨by split<;>simp,h1,λa ha b hb=>?_⟩,λx hx=>?_⟩
  ·split at ha
   ·simp at ha
    have:=h2 b hb
    subst ha
    unfold eS at *
    omega
   ·simp at ha
  ·rcases List.mem_append.1 hx with h|h
   ·split at h
    ·simp at h;omega
    ·simp at h
   ·have:=h2 x h
    unfold eS at *
    omega
theorem vG {c:Clause}: ∀(i:Nat) (l:List Pkg),(iB c i l).length≤l.length
 |i,[]=>by simp[iB]
 |i,q::r=>by
  have:=vG (c:=c) (i+1) r
  rw[iB,List.length_append]
  split<;>simp<;>omega
theorem vK {p:Pkg}{i:Nat}: ∀(l:List Pkg) (j k:Nat) (q:Pkg),l[k]?=some q→yt p i j (l.take (k+1))=yt p i j (l.take k)++(if (p.name==q.name||eP p q)=true then [[-eS i,-eS (j+k)]]else [])
 |[],j,k,q,h=>by simp at h
 |p'::r,j,0,q,h=>by
  simp at h;subst h
  simp[yt]
 |p'::r,j,k+1,q,h=>by
  rw[List.take_succ_cons,List.take_succ_cons,yt,yt,vK r (j+1) k q (by simpa using h),List.append_assoc]
  have:j+1+k=j+(k+1):=by omega
  rw[this]
theorem vQ (all:List Pkg): ∀(l:List Pkg) (j k:Nat) (p:Pkg),l[k]?=some p→sB all j (l.take (k+1))=sB all j (l.take k)++NH all (j+k) p
 |[],j,k,p,h=>by simp at h
 |q::r,j,0,p,h=>by
  simp at h;subst h
  simp[sB]
 |q::r,j,k+1,p,h=>by
  rw[List.take_succ_cons,List.take_succ_cons,sB,sB,vQ all r (j+1) k p (by simpa using h),List.append_assoc]
  have:j+1+k=j+(k+1):=by omega
  rw[this]
theorem pn (M:Nat→Bool)(a b:List (List Int)):gv M (a++b)=(gv M a&&gv M b):=by simp[gv]
theorem dS {all:List Pkg}(h:bz all=0):all.length≤24:=by
 unfold bz at h
 split at h
 ·omega
 ·omega
theorem gw : ∀{l:List Int},orL l=0→ ∀x∈l,x=0
 |[],_,x,hx=>by simp at hx
 |y::r,h,x,hx=>by
  rw[orL]at h
  split at h
  ·rename_i hy;exact absurd h hy
  ·rename_i hy
   rcases List.mem_cons.1 hx with rfl|hx
   ·exact Classical.not_not.1 hy
   ·exact gw h x hx
theorem dV {all:List Pkg}(h:bz all=0){p:Pkg}(hp:p∈all):aY p=0:=by
 unfold bz at h
 split at h
 ·omega
 ·split at h
  ·rename_i h1;exact absurd h h1
  ·rename_i h1
   exact gw (Classical.not_not.1 h1) _ (List.mem_map.2 ⟨p,hp,rfl⟩)
theorem wc {l:List Clause}(h:cA l=0):l.length≤12:=by
 unfold cA at h
 split at h
 ·omega
 ·rename_i h1;omega
theorem uW {p:Pkg}(h:aY p=0):p.pre.length≤12∧p.dep.length≤12:=by
 unfold aY at h
 split at h
 ·omega
 ·have:=gw h
  exact⟨wc (this _ (by simp)),wc (this _ (by simp))⟩
theorem kJ (i:Nat):0<eS i:=by unfold eS;omega
theorem pC (i:Nat):(eS i).natAbs=i+1:=by unfold eS;omega
theorem Ln {all:List Pkg}{i:Nat}(hi:i<all.length)(c:Clause):wfC all.length (vv all i c)=true∧(vv all i c).Nodup∧(vv all i c).length≤all.length+1:=by
 refine⟨List.all_eq_true.2 λl hl=>?_,?_,?_⟩
 ·have:l≠0∧l.natAbs≤all.length:=by
   rcases List.mem_cons.1 hl with rfl|hl
   ·have:=kJ i;have:=pC i
    exact⟨by omega,by omega⟩
   ·obtain⟨k,q,h1,rfl⟩:=wC hl
    have h2:=(List.getElem?_eq_some_iff.1 h1).1
    have:=kJ (0+k);have:=pC (0+k)
    exact⟨by omega,by omega⟩
  simp[wfL,this]
 ·refine List.nodup_cons.2 ⟨λh=>?_,(mL _ _).1⟩
  have:=(mL (c:=c) 0 all).2 _ h
  have:=kJ i;have:=kJ 0
  omega
 ·have:=vG (c:=c) 0 all
  simp[vv];omega
theorem Kn {n i k:Nat}(hi:i<n)(hk:k<i):wfC n [-eS i,-eS k]=true∧[-eS i,-eS k].Nodup:=by
 have:=kJ i;have:=pC i;have:=kJ k;have:=pC k
 refine⟨by simp[wfC,wfL];omega,by simp;unfold eS;omega⟩
end Go.Av
end
section
namespace Go.Av
structure dD (σ st:ab)(v:AV)(e:TypeId)(xs:List AV):Prop where
 row:(v= .aA∧xs=[])∨ ∃id,v= .row e id 0 xs.length∧st[id]?=some (some (.cells e xs))∧σ.length≤id
 ext:Ext σ st
theorem dD.nil {σ st:ab}(h:Ext σ st)(e:TypeId):dD σ st .aA e []:=⟨.inl ⟨rfl,rfl⟩,h⟩
theorem dD.st {σ st:ab}{v:AV}{e:TypeId}{xs:List AV}(h:dD σ st v e xs):dB st v e xs:=by
 rcases h.row with h|⟨id,rfl,h1,_⟩
 ·exact .inl h
 ·exact .inr (.inr ⟨id,0,_,xs,rfl,h1,by simp,by simp⟩)
theorem dD.more {σ st:ab}{v:AV}{e:TypeId}{xs:List AV}(h:dD σ st v e xs)(l:ab):dD σ (st++l) v e xs:=by
 refine⟨?_,h.ext.app l⟩
 rcases h.row with h1|⟨id,h1,h2,h3⟩
 ·exact .inl h1
 ·exact .inr ⟨id,h1,by rw[List.getElem?_append_left ((List.getElem?_eq_some_iff.1 h2).1)];exact h2,h3⟩
theorem bI.out {P:Program}{A:aa}{σ:ab}{t u e:TypeId}{x y:AV}{xs ys:List AV}{dst:Option Nat}{k:aa→Prop}(N:Nat)(ho:yn P t u e N=true)(h:dD σ A.st x e xs)(hy:fK A.st y e ys)(hN:xs.length+ys.length≤N)
  (hk: ∀v st',dD σ st' v e (xs++ys)→k ((A.put dst v).ar st')):bI P [t,u] [x,y] dst A k .mk:=by
 have hkl:(bX x A.st).length=A.st.length:=by unfold bX;split<;>simp
 refine bI.row N ho h.st hy hN (λhe=>hk _ _ (by rw[he,List.append_nil];exact h)) λhe=>hk _ _ ⟨.inr ⟨A.st.length,by simp,?_,h.ext.le⟩,?_⟩
 ·rw[←hkl,List.getElem?_append_right (Nat.le_refl _),Nat.sub_self]
  rfl
 ·refine Ext.app ?_ _
  rcases h.row with⟨rfl,_⟩|⟨id,rfl,_,h3⟩
  ·exact h.ext
  ·exact h.ext.set h3 _
theorem dD.Kh {A:aa}{σ:ab}{v:AV}{e:TypeId}{xs:List AV}{d:Nat}{x:Exit}{R:aa→Prop}(h:dD σ A.st v e xs)(hd:A.env d=v)
  (h0:v= .aA→xs=[]→bV R x A) (h1: ∀id,bV R x ((A.upd d (.sl e xs)).ar (A.st.set id none))∨ ¬(σ.length≤id∧A.env d= .row e id 0 xs.length)):bV R x A:=by
 rcases h.row with⟨h2,h3⟩|⟨id,h2,h3,h4⟩
 ·exact h0 h2 h3
 ·rcases h1 id with h5|h5
  ·exact bV.frz d (by rw[hd,h2]) h3 (by simp) (by simpa using h5)
  ·exact absurd ⟨h4,by rw[hd,h2]⟩ h5
end Go.Av
end
section
namespace Go.Proofs.Tryz
open Go Go.Av
set_option maxRecDepth 10000
variable {W0 :World}
structure Rep where
 name:List UInt8
 ver:List UInt8
 can:Bool
 Yp:List Nat
 never:List Nat
def dT (l:List Nat):AV:=.sl 3 (l.map λk=>.int .i64 (k:Nat))
end Go.Proofs.Tryz
end
section
namespace Go.Av
open Go
def eqK (P:Program)(ty:TypeId):Nat:=match P.underlying ty with|some (.int _)=>1|some .string=>2|some .bool=>3|_=>0
def sI (P:Program)(t:TypeId):Option (List Nat):=match P.underlying t with
 | some (.struct fl) => if fl.toList.all (fun f => f.name != "_") && (!P.stoodInHeld t && !P.eqGuardType P.depth t) then (bu P t).map fun ts => ts.map (eqK P) else none
 |_=>none
def Bl :Nat→AV→AV→Option Bool
 |1,.int k a,.int k' b=>if k=k' then some (a==b)else none
 |2,.str a,.str b=>some (a==b)
 |3,.bool a,.bool b=>some (a==b)
 |_,_,_=>none
def vr :List Nat→List AV→List AV→Option Bool
 |[],[],[]=>some true
 |ty::ts,x::xs,y::ys=>(Bl ty x y).bind λb=>(vr ts xs ys).map λc=>b&&c
 |_,_,_=>none
theorem Uh (P:Program)(ty:TypeId)(x y:AV):eq1 P ty x y=Bl (eqK P ty) x y:=by
 unfold eq1 eqK
 cases h:P.underlying ty with
 |none=>cases x<;>cases y<;>rfl
 |some u=>cases u<;>cases x<;>cases y<;>rfl
theorem Bs (P:Program): ∀(ts:List TypeId) (xs ys:List AV),qE P ts xs ys=vr (ts.map (eqK P)) xs ys
 |[],[],[]=>rfl
 |[],[],_::_=>rfl
 |[],_::_,[]=>rfl
 |[],_::_,_::_=>rfl
 |_::_,[],[]=>rfl
 |_::_,[],_::_=>rfl
 |_::_,_::_,[]=>rfl
 |ty::ts,x::xs,y::ys=>by
  simp only[qE,List.map_cons,vr,Uh,Bs P ts xs ys]
theorem sP {P:Program}{t:TypeId}{ks:List Nat}(h:sI P t=some ks)(fs gs:List AV):jh P t fs gs=vr ks fs gs:=by
 unfold sI at h
 unfold jh
 split at h
 ·rename_i fl hu
  simp only[hu]
  split at h
  ·rename_i hc
   rw[if_pos hc]
   cases hf:bu P t with
   |none=>rw[hf]at h;cases h
   |some ts=>
    rw[hf]at h
    simp only[Option.map_some,Option.some.injEq]at h
    simp only[Option.bind_some,Bs,h]
  ·cases h
 ·cases h
end Go.Av
namespace Go.Proofs.Tryz
open Go Go.Av
set_option maxRecDepth 10000
variable {W0 :World}
theorem dO {α:Type}{a b:List α}{i:Nat}{x:α}(h:a.take i=b.take i)(hx:a[i]?=some x)(hy:b[i]?=some x):a.take (i+1)=b.take (i+1):=by
 rw[aj hx,aj hy,h]
theorem gh {α:Type}{a b:List α}{i:Nat}{x y:α}(hx:a[i]?=some x)(hy:b[i]?=some y)(h:x≠y):a≠b:=by
 rintro rfl
 rw[hx]at hy
 exact h (Option.some.inj hy)
theorem tj :sI prog 81=some [2,1,2]:=by kernel_rfl
theorem tx :sI prog 147=some [2,2]:=by kernel_rfl
@[go_sem] theorem T5 (a b:Atom):cr prog .neq 81 (aS a) (aS b)= .bool (!decide (a=b)):=by
 obtain⟨a1,a2,a3⟩:=a
 obtain⟨b1,b2,b3⟩:=b
 simp only[aS,wR,sP tj,vr,Bl,if_true,Option.map_some,Option.bind_some,Option.getD_some,Atom.mk.injEq,Bool.and_true]
 congr 1
 rw[Bool.eq_iff_iff]
 simp
@[go_sem] theorem V4 (a b:Atom):cB prog .neq 81 (aS a) (aS b)=True:=by
 simp[aS,vL,sP tj,vr,Bl]
@[go_sem] theorem Tx (a b:gX):cr prog .neq 147 (dc a) (dc b)= .bool (!decide (a=b)):=by
 obtain⟨a1,a2⟩:=a
 obtain⟨b1,b2⟩:=b
 simp only[dc,wR,sP tx,vr,Bl,if_true,Option.map_some,Option.bind_some,Option.getD_some,gX.mk.injEq,Bool.and_true]
 congr 1
 rw[Bool.eq_iff_iff]
 simp
@[go_sem] theorem Vk (a b:gX):cB prog .neq 147 (dc a) (dc b)=True:=by
 simp[dc,vL,sP tx,vr,Bl]
theorem lV (a b:List Atom):ah prog W0 63 [aB a,aB b] (.bool (decide (a=b))):=by
 refine al [4] [] func63 rfl rfl ntmps63 rfl rfl (.bool _) λhs σ=>?_
 have hl:=(aC (hs _ (List.mem_cons_self ..))).1
 simp only[go_sem,simprocAttr,aB,List.length_map]
 refine⟨λh=>ai (decide_eq_false λe=>h (by rw[e])).symm,λh=>?_⟩
 have hab:a.length=b.length:=by omega
 refine ae.upto [0,1,12] (.of (by kernel_rfl)) a.length (λi A=>A.env 13= .int .i64 i∧A.st=σ∧a.take i=b.take i) 0 (Nat.zero_le _) ?_ λi B hi ⟨h13,hst,hI⟩=>?_
 ·simp only[go_sem,simprocAttr]
  simp
 simp only[go_sem,simprocAttr,h13,hst,List.length_map]
 refine⟨λhc=>?_,λhc=>ai ?_⟩
 ·obtain⟨x,hx⟩:=get_some hc
  obtain⟨y,hy⟩:=get_some (show i<b.length by omega)
  simp only[go_sem,simprocAttr,h13,hst,List.length_map,an hx,an hy]
  exact⟨.of (by kernel_rfl),hc,by omega,λhne=>ai (decide_eq_false (gh hx hy hne)).symm,λe=>⟨hc,af hc hl,dO hI hx (e▸hy)⟩⟩
 ·rw[List.take_of_length_le hc,List.take_of_length_le (by omega)]at hI
  exact(decide_eq_true hI).symm
theorem sv (a b:List gX):ah prog W0 64 [bW a,bW b] (.bool (decide (a=b))):=by
 refine al [4] [] func64 rfl rfl ntmps64 rfl rfl (.bool _) λhs σ=>?_
 have hl:=(aC (hs _ (List.mem_cons_self ..))).1
 simp only[go_sem,simprocAttr,bW,List.length_map]
 refine⟨λh=>ai (decide_eq_false λe=>h (by rw[e])).symm,λh=>?_⟩
 have hab:a.length=b.length:=by omega
 refine ae.upto [0,1,12] (.of (by kernel_rfl)) a.length (λi A=>A.env 13= .int .i64 i∧A.st=σ∧a.take i=b.take i) 0 (Nat.zero_le _) ?_ λi B hi ⟨h13,hst,hI⟩=>?_
 ·simp only[go_sem,simprocAttr]
  simp
 simp only[go_sem,simprocAttr,h13,hst,List.length_map]
 refine⟨λhc=>?_,λhc=>ai ?_⟩
 ·obtain⟨x,hx⟩:=get_some hc
  obtain⟨y,hy⟩:=get_some (show i<b.length by omega)
  simp only[go_sem,simprocAttr,h13,hst,List.length_map,an hx,an hy]
  exact⟨.of (by kernel_rfl),hc,by omega,λhne=>ai (decide_eq_false (gh hx hy hne)).symm,λe=>⟨hc,af hc hl,dO hI hx (e▸hy)⟩⟩
 ·rw[List.take_of_length_le hc,List.take_of_length_le (by omega)]at hI
  exact(decide_eq_true hI).symm
theorem jK (a b:List Clause):ah prog W0 62 [av a,av b] (.bool (decide (a=b))):=by
 refine al [4] [] func62 rfl rfl ntmps62 rfl rfl (.bool _) λhs σ=>?_
 have hl:=(aC (hs _ (List.mem_cons_self ..))).1
 simp only[go_sem,simprocAttr,av,List.length_map]
 refine⟨λh=>ai (decide_eq_false λe=>h (by rw[e])).symm,λh=>?_⟩
 have hab:a.length=b.length:=by omega
 refine ae.upto [0,1,12] (.of (by kernel_rfl)) a.length (λi A=>A.env 13= .int .i64 i∧A.st=σ∧a.take i=b.take i) 0 (Nat.zero_le _) ?_ λi B hi ⟨h13,hst,hI⟩=>?_
 ·simp only[go_sem,simprocAttr]
  simp
 simp only[go_sem,simprocAttr,h13,hst,List.length_map]
 refine⟨λhc=>?_,λhc=>ai ?_⟩
 ·obtain⟨x,hx⟩:=get_some hc
  obtain⟨y,hy⟩:=get_some (show i<b.length by omega)
  simp only[go_sem,simprocAttr,h13,hst,List.length_map,an hx,an hy]
  refine⟨.of (by kernel_rfl),hc,by omega,ay.fn (lV x y) ?_⟩
  simp only[go_sem,simprocAttr,h13,hst,List.length_map]
  exact⟨λhne=>ai (decide_eq_false (gh hx hy hne)).symm,λe=>⟨hc,af hc hl,dO hI hx (e▸hy)⟩⟩
 ·rw[List.take_of_length_le hc,List.take_of_length_le (by omega)]at hI
  exact(decide_eq_true hI).symm
theorem Lq (p q:Pkg):ah prog W0 22 [au p,au q] (.bool (decide (p=q))):=by
 refine al [4] [2,3] func22 rfl rfl ntmps22 rfl rfl (.bool _) λhs σ=>?_
 simp only[go_sem,simprocAttr,au]
 refine ay.fnG (λ_=>jK _ _) ?_
 simp only[go_sem,simprocAttr]
 refine ay.fnG (λ_=>jK _ _) ?_
 simp only[go_sem,simprocAttr]
 refine ay.fnG (λ_=>jK _ _) ?_
 simp only[go_sem,simprocAttr]
 refine ay.fnG (λ_=>lV _ _) ?_
 simp only[go_sem,simprocAttr]
 refine ay.fnG (λ_=>lV _ _) ?_
 simp only[go_sem,simprocAttr]
 refine ay.fnG (λ_=>sv _ _) ?_
 simp only[go_sem,simprocAttr]
 refine ai ?_
 obtain⟨a1,a2,a3,a4,a5,a6,a7,a8,a9⟩:=p
 obtain⟨b1,b2,b3,b4,b5,b6,b7,b8,b9⟩:=q
 rw[Bool.eq_iff_iff]
 simp only[Bool.and_eq_true,beq_iff_eq,decide_eq_true_eq,and_assoc,Pkg.mk.injEq]
 exact⟨λ⟨h1,h2,h3,h4,h5,h6,h7,h8,h9⟩=>⟨h1,h2,h4,h5,h6,h7,h8,h9,h3⟩,λ⟨h1,h2,h4,h5,h6,h7,h8,h9,h3⟩=>⟨h1,h2,h3,h4,h5,h6,h7,h8,h9⟩⟩
def atL (all:List Pkg)(t:List Nat):List Pkg:=t.filterMap λi=>all[i]?
theorem Gf {all:List Pkg}{t:List Nat}{i x:Nat}{p:Pkg}(hx:t[i]?=some x)(hp:all[x]?=some p):atL all (t.take (i+1))=atL all (t.take i)++[p]:=by
 simp[atL,aj hx,List.filterMap_append,hp]
theorem Da (all:List Pkg)(t:List Nat):(atL all t).length≤t.length:=List.length_filterMap_le _ _
theorem BK (all:List Pkg)(t:List Nat)(ht: ∀i∈t,i<all.length)(hn:t.length≤1048576):ah prog W0 16 [aH all,dT t] (aH (atL all t)):=by
 refine al [4] [] func16 rfl rfl ntmps16 rfl rfl (jY _) λhs σ=>?_
 simp only[go_sem,simprocAttr,aH,dT]
 refine ae.at [0,8,9] (.of (by kernel_rfl)) (λA=>∃ v,A.env 5=v∧aP σ A.st v 54 ((atL all t).map au)) ?_ λB ⟨v,h5,hb⟩=>?_
 ·refine ae.upto [0,8,9] (.of (by kernel_rfl)) t.length (λi A=>∃ v,A.env 5=v∧A.env 10= .int .i64 i∧aP σ A.st v 54 ((atL all (t.take i)).map au)) 0 (Nat.zero_le _) ?_ λi B hi ⟨v,h5,h10,hb⟩=>?_
  ·simp only[go_sem,simprocAttr]
   exact⟨_,rfl,aP.nil (.refl _) _⟩
  simp only[go_sem,simprocAttr,h5,h10,hb.ok,hb.un,List.length_map]
  refine⟨λhc=>⟨hc,?_⟩,λhc=>?_⟩
  ·obtain⟨x,hx⟩:=get_some hc
   obtain⟨p,hp⟩:=get_some (ht x (List.mem_of_getElem? hx))
   simp only[go_sem,simprocAttr,h5,h10,hb.ok,hb.un,List.length_map,an hx,an hp]
   refine⟨ht x (List.mem_of_getElem? hx),?_⟩
   have hlen:=Da all (t.take i)
   rw[List.length_take]at hlen
   refine bI.own 1048576 (by kernel_rfl) hb.bld (.lit _ _ _) (by simp;omega) λv' σ' ha'=>?_
   have hb':=hb.app ha'
   simp only[go_sem,simprocAttr,h5,h10,hb.ok,hb.un,hb'.ok,hb'.un]
   refine⟨hc,_,rfl,af hc (by rw[aq];omega),?_⟩
   rw[Gf hx hp,List.map_append]
   exact hb'
  ·rw[List.take_of_length_le hc]at hb
   exact⟨_,rfl,hb⟩
 simp only[go_sem,simprocAttr,h5,hb.ok,hb.un]
 exact⟨hb.cy,hb.ext⟩
end Go.Proofs.Tryz
end
section
namespace Go.Proofs.Tryz
open Go Go.Av
set_option maxRecDepth 10000
variable {W0 :World}
def xO (p q:Pkg):Bool:=Op.bytesLess q.name p.name||(q.name==p.name&&decide (0≤bs q.ver p.ver))
def qR (p:Pkg)(out:List Pkg):List Pkg:=out.takeWhile (xO p)++p::out.dropWhile (xO p)
def cS (l:List Pkg):List Pkg:=l.foldl (λo p=>qR p o) []
theorem BG {l:List Pkg}{i:Nat}{p:Pkg}(h:l[i]?=some p):cS (l.take (i+1))=qR p (cS (l.take i)):=by
 rw[cS,aj h,List.foldl_append];rfl
theorem rj (p:Pkg)(o:List Pkg):(qR p o).Perm (p::o):=by
 unfold qR
 refine List.perm_middle.trans (.cons _ ?_)
 rw[List.takeWhile_append_dropWhile]
theorem fe (l:List Pkg):(cS l).Perm l:=by
 have key: ∀(l o:List Pkg),(l.foldl (λo p=>qR p o) o).Perm (o++l):=λl=>by
  induction l with
  |nil=>intro o;simp
  |cons p l ih=>
   intro o
   refine(ih _).trans ?_
   refine((rj p o).append_right l).trans ?_
   exact List.perm_middle.symm
 have h:=key l []
 rw[List.nil_append]at h
 exact h
theorem eL {α:Type}{f:α→Bool}: ∀{l:List α} {a:Nat},(∀k x,k<a→l[k]?=some x→f x=true)→(∀x,l[a]?=some x→f x=false)→l.takeWhile f=l.take a∧l.dropWhile f=l.drop a
 |[],a,_,_=>by simp
 |x::l,0,_,h=>by
  have:=h x rfl
  simp[this]
 |x::l,a+1,h,h2=>by
  have hx:=h 0 x (by omega) rfl
  obtain⟨e1,e2⟩:=eL (l:=l) (a:=a) (λk y hk hy=>h (k+1) y (by omega) (by simpa using hy)) (λy hy=>h2 y (by simpa using hy))
  simp[hx,e1,e2]
structure dD (σ st:ab)(v:AV)(e:TypeId)(xs:List AV):Prop where
 row:db st v e xs
 ext:Ext σ st
 low: ∀j∈aO v,σ.length≤j
theorem dD.ej {σ st:ab}{v:AV}{e:TypeId}{xs:List AV}(h:dD σ st v e xs):dQ σ st v e xs:=⟨h.row.st,h.ext,λid hid=>h.low id (by cases v<;>simp[Dn]at hid;subst hid;simp[aO])⟩
theorem dD.app {σ st st':ab}{x v:AV}{e:TypeId}{xs zs:List AV}(h:dD σ st x e xs)(ha:Ea st x e zs v st'):dD σ st' v e zs:=⟨ha.row,ha.fr.wZ h.ext h.low,λj hj=>by
 rcases ha.aO j hj with h1|h1
 ·exact h.low j h1
 ·exact Nat.le_trans h.ext.le h1⟩
theorem dD.nil {σ st:ab}(h:Ext σ st)(e:TypeId):dD σ st .aA e []:=⟨.inl ⟨rfl,rfl⟩,h,λj hj=>by simp[aO]at hj⟩
theorem dD.more {σ st:ab}{v:AV}{e:TypeId}{xs:List AV}(h:dD σ st v e xs)(l:ab):dD σ (st++l) v e xs:=⟨h.row.ei λj hj=>by rw[List.getElem?_append_left (h.row.lt j hj)],h.ext.app l,h.low⟩
theorem BI (l:List Pkg)(hl:l.length≤1024):ah prog W0 20 [aH l] (aH (cS l)):=by
 refine kY [2] [5,2000053,2000056,2000060,2000003] func20 rfl rfl ntmps20 rfl rfl (jY _) λhs σ=>?_
 have ht:elT prog 22=some 54:=by kernel_rfl
 simp only[go_sem,simprocAttr,aH]
 refine ae.at [7,8] (.of (by kernel_rfl)) (λA=>∃ v,A.env 3=v∧dD σ A.st v 54 ((cS l).map au)) ?_ λB ⟨v,h3,hb⟩=>?_
 ·refine ae.upto [7,8] (.of (by kernel_rfl)) l.length (λi A=>∃ v,A.env 3=v∧A.env 9= .int .i64 i∧dD σ A.st v 54 ((cS (l.take i)).map au)) 0 (Nat.zero_le _) ?_ λi B hi ⟨v,h3,h9,hb⟩=>?_
  ·simp only[go_sem,simprocAttr]
   exact⟨_,rfl,dD.nil (.refl _) _⟩
  have hok:=hb.ej.ok
  have hun:=hb.ej.un
  simp only[go_sem,simprocAttr,h3,h9,hok,hun,List.length_map]
  refine⟨λhc=>?_,λhc=>?_⟩
  ·obtain⟨p,hp⟩:=get_some hc
   have ho:(cS (l.take i)).length≤1024:=by rw[(fe _).length_eq,List.length_take];omega
   obtain⟨o,hoo⟩: ∃o,o=cS (l.take i):=⟨_,rfl⟩
   rw[←hoo]at hb ho
   have hb':=hb.more [none]
   have hlen:mZ v= .int .i64 o.length:=by rw[hb.row.st.len,List.length_map]
   have hlc:=λt=>hb.row.st.fP prog t
   simp only[go_sem,simprocAttr,an hp,au,h3,h9,hok,hun]
   refine⟨hc,ae.at [3,5,7,8,9] (.of (by kernel_rfl)) (λA=>∃ a:Nat,A.env 6= .int .i64 a∧a≤o.length∧A.st=B.st++[none]∧(∀k x,k<a→o[k]?=some x→xO p x=true)∧(∀x,o[a]?=some x→xO p x=false)) ?_ λC ⟨a,h6,hle,hst,hI,hJ⟩=>?_⟩
   ·refine ae.upto [3,5,7,8,9] (.of (by kernel_rfl)) o.length (λa A=>A.env 6= .int .i64 a∧A.st=B.st++[none]∧(∀k x,k<a→o[k]?=some x→xO p x=true)) 0 (Nat.zero_le _) ?_ λa C hle ⟨h6,hst,hI⟩=>?_
    ·simp only[go_sem,simprocAttr]
    by_cases hlt:a<o.length
    ·obtain⟨q,hq⟩:=get_some hlt
     have hok2:=hok
     rcases hb'.row with⟨rfl,h0⟩|⟨id,off,m,zs,rfl,g1,g2,g3⟩
     ·have:=congrArg List.length h0
      simp at this
      rw[this]at hlt
      exact absurd hlt (by simp)
     have hm:m=o.length:=by rw[←db.zC (σ:=B.st) (e:=54) (id:=id) g2 g3,List.length_map]
     have hz:zs[off+a]?=some (au q):=by
      have h1:((zs.drop off).take m)[a]?=some (au q):=by rw[←g3,List.getElem?_map,hq];rfl
      rw[List.getElem?_take_of_lt (by omega),List.getElem?_drop]at h1
      exact h1
     have hk0:Av.look C.st id (off+a) [0]=some (.str q.name):=by
      rw[hst]
      unfold Av.look
      rw[g1]
      simp only[hz,Option.bind_some]
      rfl
     have hk1:Av.look C.st id (off+a) [1]=some (.str q.ver):=by
      rw[hst]
      unfold Av.look
      rw[g1]
      simp only[hz,Option.bind_some]
      rfl
     have hlv:live C.st id:=by rw[hst,az g1];trivial
     simp only[go_sem,simprocAttr,h3,h6,hok,hun,hm,hk0,hk1,hlv,hlt]
     refine⟨.of (by kernel_rfl),ay.fnG (λ_=>jZ q.ver p.ver) ?_⟩
     simp only[go_sem,simprocAttr,h3,h6,hok,hun,hm,hk0,hk1,hlv,hlt]
     refine⟨λhb1=>⟨af hlt (by rw[aq];omega),hst,λk x hk hx=>?_⟩,λhb0=>⟨a,rfl,hle,hst,hI,λx hx=>?_⟩⟩
     ·rcases Nat.lt_succ_iff_lt_or_eq.1 hk with h|rfl
      ·exact hI k x h hx
      ·rw[hq]at hx;cases hx;exact hb1
     ·rw[hq]at hx;cases hx;exact hb0
    ·simp only[go_sem,simprocAttr,h3,h6,hok,hun,hlen,hlc,hlt]
     refine⟨.of (by kernel_rfl),ay.fnG (r:=.int .i64 0) (λh=>(Bool.false_ne_true h).elim) ?_⟩
     simp only[go_sem,simprocAttr,h3,h6,hok,hun,hlen,hlc,hlt]
     exact⟨a,rfl,hle,hst,hI,λx hx=>by rw[List.getElem?_eq_none (by omega)]at hx;cases hx⟩
   have hrow:db C.st v 54 (o.map au):=by rw[hst];exact hb'.row
   have hle':a≤(o.map au).length:=by simpa using hle
   have hc1:=hrow.cut (Nat.zero_le a) hle'
   have hc2:=hrow.cut hle' (Nat.le_refl _)
   rw[List.length_map]at hc2
   have q1:=hc1.st.ok
   have q2:=hc1.st.un
   have q3:=hc2.st.ok
   have q4:=hc2.st.un
   simp only[go_sem,simprocAttr,h3,h6,h9,hok,hun,hrow.F1,hrow.kT ht,hle,List.length_map,q1,q2,q3,q4]
   refine⟨.of (by kernel_rfl),Nat.zero_le _,bI.oz (σ:=C.st) (by simp only[go_sem,simprocAttr]) 1048576 (by kernel_rfl) (.inl ⟨rfl,rfl⟩) hc1.st.read (by simp;omega) λv1 σ1 ha1=>?_⟩
   have q5:=ha1.row.st.ok
   have q6:=ha1.row.st.un
   simp only[go_sem,simprocAttr,h3,h6,h9,hok,hun,q1,q2,q3,q4,q5,q6]
   refine bI.oz (σ:=σ1) (by simp only[go_sem,simprocAttr]) 1048576 (by kernel_rfl) ha1.row (.lit _ _ _) (by simp;omega) λv2 σ2 ha2=>?_
   have q7:=ha2.row.st.ok
   have q8:=ha2.row.st.un
   have hk:db σ2 (sx a o.length v) 54 _:=hc2.ei λj hj=>by
    rw[nt]at hj
    have hj1:=hrow.lt j hj
    have hj2:j∉aO v1:=λh=>by
     rcases ha1.aO j h with h|h
     ·simp[aO]at h
     ·omega
    rw[ha2.fr.old j (Nat.lt_of_lt_of_le hj1 ha1.fr.len) hj2,ha1.fr.old j hj1 (by simp[aO])]
   simp only[go_sem,simprocAttr,h3,h6,h9,hok,hun,q1,q2,q3,q4,q5,q6,q7,q8]
   refine bI.oz (σ:=σ2) (by simp only[go_sem,simprocAttr]) 1048576 (by kernel_rfl) ha2.row hk.st.read (by simp;omega) λv3 σ3 ha3=>?_
   have q9:=ha3.row.st.ok
   have q10:=ha3.row.st.un
   simp only[go_sem,simprocAttr,h3,h6,h9,hok,hun,q1,q2,q3,q4,q5,q6,q7,q8,q9,q10]
   refine⟨hc,_,rfl,af hc (by rw[aq];omega),?_⟩
   have hx:Ext σ C.st:=by rw[hst];exact hb'.ext
   have hfin:=(((dD.nil hx 54).app ha1).app ha2).app ha3
   rw[BG hp,←hoo,qR,(eL hI hJ).1,(eL hI hJ).2]
   have he:([]++(((o.map au).drop 0).take (a-0)))++[au p]++(((o.map au).drop a).take (o.length-a))=(o.take a++p::o.drop a).map au:=by
    rw[List.take_of_length_le (l:=(o.map au).drop a) (by simp)]
    simp[List.map_take,List.map_drop]
   rw[←he]
   exact hfin
  ·rw[List.take_of_length_le hc]at hb
   exact⟨_,rfl,hb⟩
 simp only[go_sem,simprocAttr,h3,hb.ej.ok,hb.ej.un]
 exact dQ.Kh (hb.ej) (.inl rfl) (by simp only[go_sem,simprocAttr])
end Go.Proofs.Tryz
end
section
namespace Go.Proofs.Tryz
open Go Go.Av
set_option maxRecDepth 10000
variable {W0 :World}
def aD (all:List Pkg)(i:Nat):Nat:=match all[i]? with
 |some p=>i+((all.drop i).takeWhile λq=>q.name==p.name).length
 |none=>i
def bQ (all:List Pkg):Nat→Nat→List Nat→List (List Nat)
 |0,_,t=>if ec (atL all t)=true then [t]else []
 |f+1,i,t=>if i=all.length then(if ec (atL all t)=true then [t]else [])else((List.range' i (aD all i-i)).flatMap λk=>bQ all f (aD all i) (t++[k]))++bQ all f (aD all i) t
theorem kl (all:List Pkg)(f:Nat)(t:List Nat):bQ all f all.length t=if ec (atL all t)=true then [t]else []:=by
 cases f<;>simp[bQ]
theorem Bld.Yn {st:ab}{v:AV}{e:TypeId}{xs:List AV}(h:Bld st v e xs):Sub v (.sl e xs):=by
 rcases h with⟨rfl,rfl⟩|rfl|⟨t,rfl,_⟩
 ·exact .aA _
 ·exact .lit _ _
 ·exact .own _ _ _
theorem qf (u v:AV):mV false u v=v:=by
 unfold mV mw
 split<;>simp[rS]
inductive pB :List AV→List AV→Prop
 |nil:pB [] []
 |cons {x y:AV} {xs ys:List AV}:Sub x y→pB xs ys→pB (x::xs) (y::ys)
theorem pB.append {a b c d:List AV}(h:pB a b)(k:pB c d):pB (a++c) (b++d):=by
 induction h with
 |nil=>exact k
 |cons h1 _ ih=>exact .cons h1 ih
theorem pB.get {a b:List AV}(h:pB a b):a.length=b.length∧ ∀(i:Nat) (x y:AV),a[i]?=some x→b[i]?=some y→Sub x y:=by
 induction h with
 |nil=>exact⟨rfl,λi x y hx _=>by simp at hx⟩
 |cons h1 _ ih=>
  refine⟨by simp[ih.1],λi x y hx hy=>?_⟩
  cases i with
  |zero=>simp at hx hy;subst hx hy;exact h1
  |succ i=>exact ih.2 i x y (by simpa using hx) (by simpa using hy)
theorem pB.sl {a b:List AV}(h:pB a b)(e:TypeId):Sub (.sl e a) (.sl e b):=.sls h.get.1 h.get.2
theorem DQ {α:Type}{f:α→Bool}: ∀{l:List α} {k:Nat},k≤(l.takeWhile f).length→(∀x,l[k]?=some x→f x=true→k<(l.takeWhile f).length)∧(∀x,l[k]?=some x→f x=false→k=(l.takeWhile f).length)∧(l.length≤k→k=(l.takeWhile f).length)
 |[],k,h=>by simp at h;subst h;simp
 |a::l,k,h=>by
  cases hf:f a with
  |false=>
   simp[List.takeWhile_cons,hf]at h ⊢
   subst h
   simp[hf]
  |true=>
   simp[List.takeWhile_cons,hf]at h ⊢
   cases k with
   |zero=>simp[hf]
   |succ k=>
    obtain⟨h1,h2,h3⟩:=DQ (f:=f) (l:=l) (k:=k) (by omega)
    simpa using ⟨h1,h2,h3⟩
theorem kV {all:List Pkg}{i k:Nat}{p:Pkg}(hp:all[i]?=some p)(hk:k≤aD all i-i):
  (∀q,all[i+k]?=some q→q.name=p.name→k<aD all i-i)∧(∀q,all[i+k]?=some q→ ¬q.name=p.name→i+k=aD all i)∧(all.length≤i+k→i+k=aD all i):=by
 have hr:aD all i=i+((all.drop i).takeWhile λq=>q.name==p.name).length:=by simp[aD,hp]
 rw[hr]at hk ⊢
 rw[Nat.add_sub_cancel_left]at hk ⊢
 obtain⟨h1,h2,h3⟩:=DQ hk
 refine⟨λq hq e=>h1 q (by rw[List.getElem?_drop];exact hq) (by simpa using e),λq hq e=>?_,λhl=>?_⟩
 ·rw[←h2 q (by rw[List.getElem?_drop];exact hq) (by simpa using e)]
 ·rw[←h3 (by rw[List.length_drop];omega)]
theorem cb {all:List Pkg}{i:Nat}{p:Pkg}(hp:all[i]?=some p):i<aD all i∧aD all i≤all.length:=by
 have h0:=(kV hp (Nat.zero_le _)).1 p hp rfl
 refine⟨by omega,?_⟩
 have hr:aD all i=i+((all.drop i).takeWhile λq=>q.name==p.name).length:=by simp[aD,hp]
 have h1:=(List.takeWhile_sublist (λq:Pkg=>q.name==p.name) (l:=all.drop i)).length_le
 have h2:=(List.getElem?_eq_some_iff.1 hp).1
 rw[List.length_drop]at h1
 omega
theorem room {d m:Nat}:(d+1)*2^m≤2^(d+m):=by
 rw[Nat.pow_add]
 exact Nat.mul_le_mul_right _ (Nat.lt_two_pow_self)
structure NOk (all:List Pkg)(N:Nat→Nat):Prop where
 one:1≤N all.length
 step: ∀i p,all[i]?=some p→(aD all i-i+1)*N (aD all i)≤N i
theorem NOk.two (all:List Pkg):NOk all λi=>2^(all.length-i):=⟨Nat.one_le_two_pow,λi p hp=>by
 obtain⟨b1,b2⟩:=cb hp
 have hroom:=room (d:=aD all i-i) (m:=all.length-aD all i)
 rwa [show aD all i-i+(all.length-aD all i)=all.length-i by omega]at hroom⟩
def WC (W0:World)(all:List Pkg)(N:Nat→Nat)(F b:Nat):Prop:=∀ (i:Nat) (t:List Nat) (σ:ab) (v:AV) (xs:List AV),all.length≤b+i→i≤all.length→(∀k∈t,k<all.length)→t.length≤i→Bld σ v 37 xs→xs.length+N i≤1000→
  bg prog W0 115 [aH all,.int .i64 i,dT t,v] σ λr σ'=>Fr (aO v) σ σ'∧(∀j∈aO r,j∈aO v∨σ.length≤j)∧ ∃ys,Bld σ' r 37 (xs++ys)∧ys.length≤N i∧pB ys ((bQ all F i t).map dT)
theorem rC (all:List Pkg)(h7:all.length≤24){N:Nat→Nat}(hN:NOk all N)(f:Nat)(ih:0<f→WC W0 all N f (f-1)):WC W0 all N (f+1) f:=by
  intro i t σ v xs hf hi ht htl hb hx
  have hxs:=Nat.le_trans (Nat.le_add_right _ _) hx
  refine cQ [8] [] func115 rfl rfl ntmps115 rfl rfl λhs=>?_
  have hok:=hb.ok
  have hun:=hb.un
  have hfl:=λt=>hb.fits prog t
  simp only[go_sem,simprocAttr,aH,dT,List.length_map,hok,hun]
  refine⟨λhe=>?_,λhe=>?_⟩
  ·subst he
   refine ak.fn (BK all t ht (by omega)) ?_
   simp only[go_sem,simprocAttr,hok,hun]
   refine ak.fn (Ac (atL all t)) ?_
   simp only[go_sem,simprocAttr,hok,hun]
   refine cp.both (λhh=>?_) (λhh=>?_)
   ·simp only[go_sem,simprocAttr,hok,hun]
    refine bI.sg (σ:=σ) (by simp only[go_sem,simprocAttr]) 1048576 (by kernel_rfl) (.inl ⟨rfl,rfl⟩) (.sl _ _ _) (by simp;omega) λv1 σ1 ha1=>?_
    have p1:=ha1.bld.ok
    have p2:=ha1.bld.un
    simp only[go_sem,simprocAttr,hok,hun,p1,p2]
    have hb1:Bld σ1 v 37 xs:=hb.ei λj hj=>ha1.old j (hb.lt j hj) (by simp[ff])
    refine⟨by rw[ha1.bld.fits];kernel_rfl,bI.sg (σ:=σ1) (by simp only[go_sem,simprocAttr]) 1048576 (by kernel_rfl) hb1 (.lit _ _ _) (by simp;omega) λv2 σ2 ha2=>?_⟩
    have p3:=ha2.bld.ok
    have p4:=ha2.bld.un
    simp only[go_sem,simprocAttr,hok,hun,p1,p2,p3,p4]
    refine bV.ret ?_
    simp only[go_sem,simprocAttr]
    refine⟨_,.refl _,Nat.le_trans ha1.len ha2.len,(ha1.fr.mono (by simp[aO])).trans ha2.fr (λj hj=>.inl hj),λj hj=>?_,[v1],ha2.bld,hN.one,?_⟩
    ·rcases ha2.aO hb1 j hj with h|h
     ·exact .inl h
     ·exact .inr (Nat.le_trans ha1.len h)
    ·rw[kl,if_pos hh]
     exact .cons (Bld.Yn ha1.bld) .nil
   ·simp only[go_sem,simprocAttr,hok,hun]
    refine bV.ret ?_
    simp only[go_sem,simprocAttr]
    refine⟨_,.refl _,.refl _ _,λj hj=>.inl hj,[],by rw[List.append_nil];exact hb,by simp,?_⟩
    rw[kl,if_neg (by simp[hh])]
    exact .nil
  have hil:i<all.length:=by omega
  obtain⟨p,hp⟩:=get_some hil
  refine ae.at [0,1,2,3] (.of (by kernel_rfl)) (λA=>A.env 9= .int .i64 (aD all i)∧A.st=σ) ?_ λB ⟨h9,hst⟩=>?_
  ·refine ae.upto [0,1,2,3] (.of (by kernel_rfl)) (aD all i-i) (λk A=>A.env 9= .int .i64 (i+k:Nat)∧A.st=σ) 0 (Nat.zero_le _) ?_ λk B hk ⟨h9,hst⟩=>?_
   ·simp only[go_sem,simprocAttr]
    rfl
   obtain⟨s1,s2,s3⟩:=kV hp hk
   by_cases hlt:i+k<all.length
   ·obtain⟨q,hq⟩:=get_some hlt
    simp only[go_sem,simprocAttr,h9,hst,List.length_map,hlt,hil,an hp,an hq,au]
    exact⟨.of (by kernel_rfl),λe=>⟨s1 q hq e,by rw[aF (by omega)];rfl⟩,λe=>by rw[s2 q hq e]⟩
   ·simp only[go_sem,simprocAttr,h9,hst,List.length_map,hlt,qf]
    exact⟨.of (by kernel_rfl),by rw[s3 (by omega)]⟩
  obtain⟨b1,b2⟩:=cb hp
  have hroom:=hN.step i p hp
  generalize hnx:aD all i=nx at h9 b1 b2 hroom ⊢
  simp only[go_sem,simprocAttr,h9,hst]
  refine ae.at [0,2,9] (.of (by kernel_rfl)) (λA=>∃ v',A.env 3=v'∧Fr (aO v) σ A.st∧(∀j∈aO v',j∈aO v∨σ.length≤j)∧ ∃ys,Bld A.st v' 37 (xs++ys)∧ys.length≤(nx-i)*N nx∧pB ys ((((List.range' i (nx-i)).flatMap λk=>bQ all f nx (t++[k]))).map dT)) ?_ λC ⟨v',h3,g1,g2,ys,g3,g4,g5⟩=>?_
  ·refine ae.upto [0,2,9] (.of (by kernel_rfl)) (nx-i) (λk A=>A.env 10= .int .i64 (i+k:Nat)∧ ∃v',A.env 3=v'∧Fr (aO v) σ A.st∧(∀j∈aO v',j∈aO v∨σ.length≤j)∧ ∃ys,Bld A.st v' 37 (xs++ys)∧ys.length≤k*N nx∧pB ys ((((List.range' i k).flatMap λk=>bQ all f nx (t++[k]))).map dT)) 0 (Nat.zero_le _) ?_ λk C hk ⟨h10,v',h3,g1,g2,ys,g3,g4,g5⟩=>?_
   ·simp only[go_sem,simprocAttr]
    exact⟨rfl,v,rfl,by rw[hst];exact .refl _ _,λj hj=>.inl hj,[],by rw[hst,List.append_nil];exact hb,by simp,.nil⟩
   have o1:=g3.ok
   have o2:=g3.un
   simp only[go_sem,simprocAttr,h9,h10,h3,o1,o2]
   refine⟨λhlt=>?_,λhge=>?_⟩
   ·refine bI.sg (σ:=C.st) (by simp only[go_sem,simprocAttr]) 1048576 (by kernel_rfl) (.inl ⟨rfl,rfl⟩) (.sl _ _ _) (by simp;omega) λv1 σ1 a1=>?_
    have p1:=a1.bld.ok
    have p2:=a1.bld.un
    simp only[go_sem,simprocAttr,h9,h10,h3,o1,o2,p1,p2]
    refine bI.sg (σ:=σ1) (by simp only[go_sem,simprocAttr]) 1048576 (by kernel_rfl) a1.bld (.lit _ _ _) (by simp;omega) λv2 σ2 a2=>?_
    have p3:=a2.bld.ok
    have p4:=a2.bld.un
    simp only[go_sem,simprocAttr,h9,h10,h3,o1,o2,p1,p2,p3,p4]
    have f12:Fr [] C.st σ2:=(a1.fr.mono (by simp[aO])).trans a2.fr λj hj=>by
     have:=a1.aO (.inl ⟨rfl,rfl⟩) j hj
     simpa[aO]using this
    have b2':Bld σ2 v' 37 (xs++ys):=g3.ei λj hj=>f12.old j (g3.lt j hj) (by simp)
    have ew:cT v2 (dT (t++[i+k])):=by
     have:=Bld.cy a2.bld
     simpa[dT,List.map_append]using this
    have hm1:=Nat.mul_le_mul_right (N nx) (show k+1≤nx-i+1 by omega)
    rw[Nat.succ_mul]at hm1
    refine ak.goes (σ:=σ2) (by simp only[go_sem,simprocAttr]) ((ih (by omega) nx (t++[i+k]) σ2 v' (xs++ys) (by omega) b2 (λj hj=>?_) (by simp;omega) b2' (by rw[List.length_append];omega)).cy (.cons (.refl _) (.cons (.refl _) (.cons ew (.cons (.refl _) .nil))))) λr σ3 ⟨k1,k2,zs,k3,k4,k5⟩=>?_
    ·rcases List.mem_append.1 hj with h|h
     ·exact ht j h
     ·simp at h;omega
    have p5:=k3.ok
    have p6:=k3.un
    simp only[go_sem,simprocAttr,h9,h10,h3,o1,o2,p1,p2,p3,p4,p5,p6]
    refine⟨by omega,by rw[aF (by omega)];rfl,r,rfl,(g1.trans f12 (by simp)).trans k1 λj hj=>g2 j hj,λj hj=>?_,ys++zs,by rw[←List.append_assoc];exact k3,?_,?_⟩
    ·rcases k2 j hj with h|h
     ·exact g2 j h
     ·exact .inr (Nat.le_trans (Nat.le_trans g1.len f12.len) h)
    ·rw[List.length_append,Nat.succ_mul]
     exact Nat.add_le_add g4 k4
    ·have er:(i::List.range' (i+1) k)=List.range' i k++[i+k]:=by
      rw[←List.range'_succ,List.range'_concat,Nat.one_mul]
     rw[er,List.flatMap_append,List.map_append]
     refine g5.append ?_
     simpa using k5
   ·have e:k=nx-i:=by omega
    exact⟨_,rfl,g1,g2,ys,g3,by rw[←e];exact g4,by rw[←e];exact g5⟩
  have o1:=g3.ok
  have o2:=g3.un
  simp only[go_sem,simprocAttr,h9,h3,o1,o2]
  rw[Nat.succ_mul]at hroom
  refine ak.goes (σ:=C.st) (by simp only[go_sem,simprocAttr]) (ih (by omega) nx t C.st v' (xs++ys) (by omega) b2 ht (by omega) g3 (by rw[List.length_append];omega)) λr σ3 ⟨k1,k2,zs,k3,k4,k5⟩=>?_
  have p5:=k3.ok
  have p6:=k3.un
  simp only[go_sem,simprocAttr,p5,p6]
  refine bV.ret ?_
  simp only[go_sem,simprocAttr]
  refine⟨r,.refl _,Nat.le_trans g1.len k1.len,g1.trans k1 λj hj=>g2 j hj,λj hj=>?_,ys++zs,by rw[←List.append_assoc];exact k3,?_,?_⟩
  ·rcases k2 j hj with h|h
   ·exact g2 j h
   ·exact .inr (Nat.le_trans g1.len h)
  ·rw[List.length_append];omega
  ·rw[bQ,if_neg he,hnx,List.map_append]
   exact g5.append k5
theorem BV (all:List Pkg)(h7:all.length≤24){N:Nat→Nat}(hN:NOk all N): ∀f,WC W0 all N (f+1) f:=by
 intro f
 induction f with
 |zero=>exact rC all h7 hN 0 λh=>absurd h (by omega)
 |succ f ih=>exact rC all h7 hN (f+1) λ_=>ih
end Go.Proofs.Tryz
end
section
namespace Go.Proofs.Tryz
open Go Go.Av
set_option maxRecDepth 10000
variable {W0 :World}
theorem j2 {all:List Pkg}: ∀{f i:Nat} {t u:List Nat},u∈bQ all f i t→i≤all.length→(∀k∈t,k<all.length)→t.length≤i→(∀k∈u,k<all.length)∧u.length≤all.length
 |0,i,t,u,h,hi,ht,hl=>by
  simp[bQ]at h
  rw[h.2]
  exact⟨ht,by omega⟩
 |f+1,i,t,u,h,hi,ht,hl=>by
  rw[bQ]at h
  split at h
  ·rename_i he
   split at h
   ·rw[List.mem_singleton.1 h]
    exact⟨ht,by omega⟩
   ·cases h
  ·rename_i he
   obtain⟨p,hp⟩:=get_some (show i<all.length by omega)
   obtain⟨b1,b2⟩:=cb hp
   rcases List.mem_append.1 h with h|h
   ·obtain⟨k,hk,h⟩:=List.mem_flatMap.1 h
    rw[List.mem_range'_1]at hk
    refine j2 h b2 (λx hx=>?_) (by simp;omega)
    rcases List.mem_append.1 hx with h1|h1
    ·exact ht x h1
    ·simp at h1;omega
   ·exact j2 h b2 ht (by omega)
theorem Aq {g:Nat→List (List Nat)}{W:Nat}: ∀{l:List Nat},(∀k,(g k).length≤W)→(l.flatMap g).length≤l.length*W
 |[],_=>by simp
 |a::l,h=>by
  have:=Aq (l:=l) h
  have h2:=h a
  rw[List.flatMap_cons,List.length_append,List.length_cons,Nat.succ_mul]
  omega
def CS (all:List Pkg):List (List Nat):=bQ all (all.length+1) 0 []
theorem Ax (all:List Pkg)(h7:all.length≤24){N:Nat→Nat}(hN:NOk all N)(h0:N 0≤1000):ah prog W0 54 [aH all] (.sl 37 ((CS all).map dT)):=by
 refine al [2] [] func54 rfl rfl ntmps54 rfl rfl (eE (λl=>eE (λk=>.int _ _) l) _) λhs σ=>?_
 simp only[go_sem,simprocAttr,aH]
 refine ak.goes (σ:=σ) (by simp only[go_sem,simprocAttr]) ((BV all h7 hN all.length 0 [] σ .aA [] (by omega) (by omega) (by simp) (by simp) (.inl ⟨rfl,rfl⟩) (by simp;omega)).cy (.cons (.refl _) (.cons (.refl _) (.cons (.sub (.aA _)) (.cons (.refl _) .nil))))) λr σ1 ⟨k1,k2,ys,k3,k4,k5⟩=>?_
 have o1:=k3.ok
 have o2:=k3.un
 simp only[go_sem,simprocAttr,o1,o2]
 exact⟨(Bld.cy k3).trans (.sub (k5.sl _)),k1.wZ (.refl _) (by simp[aO])⟩
end Go.Proofs.Tryz
end
section
namespace Go.Proofs.Tryz
open Go Go.Av
set_option maxRecDepth 10000
variable {W0 :World}
def ML (all:List Pkg)(j:Nat):Option (List UInt8):=(all[j]?).map λp=>p.name
end Go.Proofs.Tryz
end
section
namespace Go.Av
structure Dj (all:List Pkg)(S:Nat→Bool):Prop where
 dep: ∀(i:Nat) (p:Pkg),all[i]?=some p→S i=true→ ∀c∈p.pre++p.dep,∃(k:Nat) (q:Pkg),all[k]?=some q∧c.any (di q)=true∧S k=true
 con: ∀(i:Nat) (p:Pkg) (k:Nat) (q:Pkg),all[i]?=some p→all[k]?=some q→k<i→S i=true→S k=true→p.name≠q.name∧eP p q=false
end Go.Av
end
section
namespace Go.Av
def vb (d:List Clause):Bool:=decide (d.length≤14)&&d.all λc=>decide (c.length≤10)
def oc (i:Nat)(p:Pkg):Bool:=decide (i<26)&&decide (p.con.length+p.brk.length+p.dF.length≤40)&&[p.pre,p.dep,p.rcm].all vb
def iX :Nat→List Pkg→Bool
 |_,[]=>true
 |i,p::r=>oc i p&&iX (i+1) r
theorem s9 : ∀{i:Nat} {l:List Pkg},iX i l=true→ ∀p∈l,p.con.length+p.brk.length+p.dF.length≤40
 |_,[],_,p,hp=>by simp at hp
 |i,q::r,h,p,hp=>by
  rw[iX,Bool.and_eq_true]at h
  rcases List.mem_cons.1 hp with rfl|hp
  ·have:=h.1
   simp[oc]at this
   exact this.1.2
  ·exact s9 h.2 p hp
end Go.Av
end
section
namespace Go.Av
def zG {α β:Type}(f:α→β→Bool):List α→List β→Bool
 |[],[]=>true
 |x::xs,y::ys=>f x y&&zG f xs ys
 |_,_=>false
theorem pd {α β:Type}{f:α→β→Bool}: ∀{xs:List α} {ys:List β},zG f xs ys=true→xs.length=ys.length∧ ∀(i:Nat) (x:α) (y:β),xs[i]?=some x→ys[i]?=some y→f x y=true
 |[],[],_=>⟨rfl,by simp⟩
 |[],_::_,h=>by simp[zG]at h
 |_::_,[],h=>by simp[zG]at h
 |x::xs,y::ys,h=>by
  rw[zG,Bool.and_eq_true]at h
  obtain⟨h1,h2⟩:=pd h.2
  refine⟨by simp[h1],λi x' y' hx hy=>?_⟩
  cases i with
  |zero=>simp at hx hy;subst hx hy;exact h.1
  |succ i=>exact h2 i x' y' (by simpa using hx) (by simpa using hy)
def DU :Nat→AV→AV→Bool
 |0,_,_=>false
 |n+1,x,y=>match x,y with
  | .int k a,.int k' b=>decide (k=k')&&a==b
  | .bool a,.bool b=>a==b
  | .str a,.str b=>a==b
  | .nil,.nil=>true
  | .aA,.aA=>true
  | .aA,.sl _ []=>true
  | .sl e xs,.sl e' ys=>e==e'&&zG (DU n) xs ys
  | .lit e xs,.sl e' ys=>e==e'&&zG (DU n) xs ys
  | .agg t xs,.agg t' ys=>t==t'&&zG (DU n) xs ys
  |_,_=>false
theorem jI : ∀{n:Nat} {x y:AV},DU n x y=true→Sub x y
 |0,_,_,h=>by simp[DU]at h
 |n+1,x,y,h=>by
  unfold DU at h
  split at h
  ·simp only[Bool.and_eq_true,decide_eq_true_eq,beq_iff_eq]at h
   rw[h.1,h.2];exact .refl _
  ·rw[beq_iff_eq.1 h];exact .refl _
  ·rw[beq_iff_eq.1 h];exact .refl _
  ·exact .refl _
  ·exact .refl _
  ·exact .aA _
  ·rw[Bool.and_eq_true,beq_iff_eq]at h
   obtain⟨rfl,h⟩:=h
   obtain⟨h1,h2⟩:=pd h
   exact .sls h1 λi x y hx hy=>jI (h2 i x y hx hy)
  ·rw[Bool.and_eq_true,beq_iff_eq]at h
   obtain⟨rfl,h⟩:=h
   obtain⟨h1,h2⟩:=pd h
   exact .trans (.lits h1 λi x y hx hy=>jI (h2 i x y hx hy)) (.lit _ _)
  ·rw[Bool.and_eq_true,beq_iff_eq]at h
   obtain⟨rfl,h⟩:=h
   obtain⟨h1,h2⟩:=pd h
   exact .agg h1 λi x y hx hy=>jI (h2 i x y hx hy)
  ·cases h
end Go.Av
end
section
namespace Go.Av
def Ph (all:List Pkg)(i:Nat):Prop:=∃ S,Dj all S∧S i=true
def XE (all:List Pkg)(i j:Nat):Prop:=∃ S,Dj all S∧S i=true∧S j=true
def Yd (all:List Pkg)(i j:Nat):Prop:=∃ S,Dj all S∧S i=true∧S j=false
structure ml (all:List Pkg)(i j:Nat):Prop where
 ne:i≠j
 can:Ph all i
 not: ¬Yd all i j
structure uc (all:List Pkg)(i j:Nat):Prop where
 ne:i≠j
 can:Ph all i
 U3:Ph all j
 not: ¬XE all i j
theorem ml.sel {all:List Pkg}{i j:Nat}(h:ml all i j){S:Nat→Bool}(hS:Dj all S)(hi:S i=true):S j=true:=by
 cases hj:S j with
 |true=>rfl
 |false=>exact absurd ⟨S,hS,hi,hj⟩ h.not
theorem ml.trans {all:List Pkg}{i j k:Nat}(h:ml all i j)(h':ml all j k)(hk:k≠i):ml all i k:=
 ⟨λe=>hk e.symm,h.can,λ⟨_,hS,hi,hk⟩=>by rw[h'.sel hS (h.sel hS hi)]at hk;cases hk⟩
theorem ml.never {all:List Pkg}{i j k:Nat}(h:ml all i j)(h':uc all j k):uc all i k:=by
 refine⟨λe=>?_,h.can,h'.U3,λ⟨S,hS,hi,hk⟩=>h'.not ⟨S,hS,h.sel hS hi,hk⟩⟩
 subst e
 obtain⟨S,hS,hi⟩:=h.can
 exact h'.not ⟨S,hS,h.sel hS hi,hi⟩
theorem uc.symm {all:List Pkg}{i j:Nat}(h:uc all i j):uc all j i:=
 ⟨λe=>h.ne e.symm,h.U3,h.can,λ⟨S,hS,hj,hi⟩=>h.not ⟨S,hS,hi,hj⟩⟩
theorem oI (p q:Pkg):eP p q=eP q p:=by
 unfold eP
 rw[Bool.or_comm (jU p q)]
 congr 1
 rw[Bool.eq_iff_iff]
 simp only[bne_iff_ne,ne_eq]
 exact⟨λh e=>h e.symm,λh e=>h e.symm⟩
end Go.Av
end
section
namespace Go.Av
theorem fH (a b:Int):sgn b a= -sgn a b:=by
 unfold sgn
 split<;>split<;>(try split)<;>(try split)<;>omega
theorem nh (a b:List UInt8):bU a b=if rk a=0∧rk b=0 then 0 else if rk a=rk b then bU a.tail b.tail else sgn (rk a) (rk b):=by
 by_cases h1:rk a=0∧rk b=0
 ·rw[if_pos h1,fY h1.1 h1.2]
 ·rw[if_neg h1]
  by_cases h2:rk a=rk b
  ·rw[if_pos h2,fW (λe=>h1 ⟨e,by rw[←h2];exact e⟩) h2]
  ·rw[if_neg h2,dI h2]
theorem r5 : ∀(n:Nat) (a b:List UInt8),a.length≤n→bU b a= -bU a b
 |0,a,b,h=>by
  have:a=[]:=List.eq_nil_of_length_eq_zero (by omega)
  subst this
  rw[nh b,nh []]
  have h0:rk []=0:=rfl
  rw[h0]
  by_cases hb:rk b=0
  ·simp[hb]
  ·rw[if_neg (λe=>hb e.1),if_neg hb,if_neg (λe=>hb e.2),if_neg (λe=>hb e.symm),fH]
 |n+1,a,b,h=>by
  rw[nh b,nh a]
  by_cases h1:rk a=0∧rk b=0
  ·rw[if_pos h1,if_pos ⟨h1.2,h1.1⟩];rfl
  ·rw[if_neg h1,if_neg (λe=>h1 ⟨e.2,e.1⟩)]
   by_cases h2:rk a=rk b
   ·have ha:rk a≠0:=λe=>h1 ⟨e,by rw[←h2];exact e⟩
    obtain⟨c,r,rfl,_⟩:=Ad ha
    rw[if_pos h2,if_pos h2.symm]
    exact r5 n r b.tail (by simpa using h)
   ·rw[if_neg h2,if_neg (λe=>h2 e.symm),fH]
theorem wu : ∀(a b:List UInt8),fy b a= -fy a b
 |[],b=>by cases b<;>rfl
 |x::a,[]=>rfl
 |x::a,y::b=>by
  unfold fy
  by_cases h:x=y
  ·rw[if_pos h,if_pos h.symm];exact wu a b
  ·rw[if_neg h,if_neg (λe=>h e.symm),fH]
theorem ui {a b:List UInt8}(h: ¬(a=[]∧b=[])):bj a b=if bU a b≠0 then bU a b
  else if bm (aL a)≠bm (aL b)then sgn (bm (aL a)) (bm (aL b))
  else if fy ((aL a).take (bm (aL a))) ((aL b).take (bm (aL b)))≠0 then fy ((aL a).take (bm (aL a))) ((aL b).take (bm (aL b)))
  else bj ((aL a).drop (bm (aL a))) ((aL b).drop (bm (aL b))):=by
 rw[bj,dif_neg h]
theorem s5 : ∀(n:Nat) (a b:List UInt8),a.length+b.length≤n→bj b a= -bj a b
 |0,a,b,h=>by
  have h1:a=[]:=List.eq_nil_of_length_eq_zero (by omega)
  have h2:b=[]:=List.eq_nil_of_length_eq_zero (by omega)
  subst h1 h2
  rw[bj,dif_pos ⟨rfl,rfl⟩];rfl
 |n+1,a,b,h=>by
  by_cases h0:a=[]∧b=[]
  ·rw[bj,dif_pos ⟨h0.2,h0.1⟩,bj,dif_pos h0];rfl
  ·have hlt:=uP h0
   have ih:=s5 n ((aL a).drop (bm (aL a))) ((aL b).drop (bm (aL b))) (by omega)
   rw[ui (a:=b) (b:=a) (λe=>h0 ⟨e.2,e.1⟩),ui h0,r5 _ a b (Nat.le_refl _)]
   by_cases h1:bU a b=0
   ·rw[if_neg (show ¬(-bU a b≠0) by omega),if_neg (show ¬(bU a b≠0) by omega)]
    by_cases h2:bm (aL a)=bm (aL b)
    ·rw[if_neg (show ¬(bm (aL b)≠bm (aL a)) by omega),if_neg (show ¬(bm (aL a)≠bm (aL b)) by omega),wu ((aL a).take (bm (aL a)))]
     by_cases h3:fy ((aL a).take (bm (aL a))) ((aL b).take (bm (aL b)))=0
     ·rw[if_neg (show ¬(-fy ((aL a).take (bm (aL a))) ((aL b).take (bm (aL b)))≠0) by omega),if_neg (show ¬(fy ((aL a).take (bm (aL a))) ((aL b).take (bm (aL b)))≠0) by omega)];exact ih
     ·rw[if_pos (show-fy ((aL a).take (bm (aL a))) ((aL b).take (bm (aL b)))≠0 by omega),if_pos h3]
    ·rw[if_pos (show bm (aL b)≠bm (aL a) by omega),if_pos h2,fH]
   ·rw[if_pos (show-bU a b≠0 by omega),if_pos h1]
theorem oE (a b:List UInt8):bj b a= -bj a b:=s5 _ a b (Nat.le_refl _)
theorem ki (a b:List UInt8):bs b a= -bs a b:=by
 unfold bs
 rcases eT a with _|⟨e,u,r⟩
 ·rcases eT b with _|⟨f,v,s⟩<;>rfl
 ·rcases eT b with _|⟨f,v,s⟩
  ·rfl
  ·show(if bj f e≠0 then bj f e else if bj v u≠0 then bj v u else bj s r)= -(if bj e f≠0 then bj e f else if bj u v≠0 then bj u v else bj r s)
   rw[oE e f,oE u v,oE r s]
   by_cases h1:bj e f=0
   ·by_cases h2:bj u v=0
    ·simp[h1,h2]
    ·rw[if_neg (show ¬(-bj e f≠0) by omega),if_neg (show ¬(bj e f≠0) by omega),if_pos (show-bj u v≠0 by omega),if_pos h2]
   ·rw[if_pos (show-bj e f≠0 by omega),if_pos h1]
theorem lH (a b:List UInt8):bb b a=bb a b:=by
 unfold bb
 rw[ki a b,Bool.and_comm (bn b)]
 congr 1
 rw[Bool.eq_iff_iff,beq_iff_eq,beq_iff_eq]
 omega
theorem rF (p q:Pkg):dy p q=dy q p:=by
 unfold dy
 rw[lH]
 congr 1
 rw[Bool.eq_iff_iff,beq_iff_eq,beq_iff_eq]
 exact⟨λh=>h.symm,λh=>h.symm⟩
theorem ub : ∀(l bef:List Pkg),nN bef l=false↔(∀p∈l,∀q∈bef,dy p q=false)∧l.Pairwise λx y=>dy y x=false
 |[],bef=>by simp[nN]
 |p::r,bef=>by
  rw[nN,Bool.or_eq_false_iff,ub r,List.pairwise_cons,List.any_eq_false]
  constructor
  ·rintro⟨h1,h2,h3⟩
   refine⟨λx hx q hq=>?_,λx hx=>h2 x hx p (by simp),h3⟩
   rcases List.mem_cons.1 hx with rfl|hx
   ·simpa using h1 q hq
   ·exact h2 x hx q (by simp[hq])
  ·rintro⟨h1,h2,h3⟩
   refine⟨λq hq=>by simpa using h1 p (by simp) q hq,λx hx q hq=>?_,h3⟩
   rcases List.mem_append.1 hq with hq|hq
   ·exact h1 x (by simp[hx]) q hq
   ·rw[List.mem_singleton.1 hq];exact h2 x hx
theorem jN : ∀(l:List Pkg) (acc:List (List UInt8)) (x:List UInt8),x∈du l acc↔x∈acc∨ ∃p∈l,p.name=x
 |[],acc,x=>by simp[du]
 |p::r,acc,x=>by
  rw[du,jN r]
  by_cases h:acc.any (λx=>p.name==x)=true
  ·rw[if_pos h]
   obtain⟨y,hy,e⟩:=List.any_eq_true.1 h
   have e:=beq_iff_eq.1 e
   constructor
   ·rintro(h|⟨q,hq,e⟩)
    ·exact .inl h
    ·exact .inr ⟨q,by simp[hq],e⟩
   ·rintro(h|⟨q,hq,e'⟩)
    ·exact .inl h
    ·rcases List.mem_cons.1 hq with rfl|hq
     ·exact .inl (by rw[←e',e];exact hy)
     ·exact .inr ⟨q,hq,e'⟩
  ·rw[if_neg h,List.mem_append,List.mem_singleton]
   constructor
   ·rintro((h|rfl)|⟨q,hq,e⟩)
    ·exact .inl h
    ·exact .inr ⟨p,by simp,rfl⟩
    ·exact .inr ⟨q,by simp[hq],e⟩
   ·rintro(h|⟨q,hq,e'⟩)
    ·exact .inl (.inl h)
    ·rcases List.mem_cons.1 hq with rfl|hq
     ·exact .inl (.inr e'.symm)
     ·exact .inr ⟨q,hq,e'⟩
theorem jj : ∀(l:List Pkg) (acc:List (List UInt8)),acc.Nodup→(du l acc).Nodup
 |[],acc,h=>h
 |p::r,acc,h=>by
  rw[du]
  refine jj r _ ?_
  by_cases hm:acc.any (λx=>p.name==x)=true
  ·rw[if_pos hm];exact h
  ·rw[if_neg hm]
   refine List.nodup_append.2 ⟨h,by simp,λa ha b hb e=>?_⟩
   rw[List.mem_singleton]at hb
   subst hb
   exact hm (List.any_eq_true.2 ⟨a,ha,by simp[e]⟩)
theorem wq {α:Type} [DecidableEq α]: ∀(l m:List α),l.Nodup→(∀x∈l,x∈m)→l.length≤m.length
 |[],_,_,_=>Nat.zero_le _
 |x::l,m,hn,h=>by
  rw[List.nodup_cons]at hn
  have hx:=h x (by simp)
  have:=wq l (m.erase x) hn.2 λy hy=>by
   have hne:y≠x:=λe=>hn.1 (by rw[←e];exact hy)
   exact(List.mem_erase_of_ne hne).2 (h y (by simp[hy]))
  rw[List.length_erase_of_mem hx]at this
  have:=List.length_pos_of_mem hx
  simp;omega
theorem DC : ∀(l:List Int),orL l=0↔ ∀x∈l,x=0
 |[]=>by simp[orL]
 |y::r=>by
  constructor
  ·exact gw
  ·intro h
   rw[orL,if_neg (by simp[h y (by simp)])]
   exact(DC r).2 λx hx=>h x (by simp[hx])
end Go.Av
end
section
namespace Go.Av
structure HL (l:List Pkg):Prop where
 may: ∀p∈l,aY p=0
 pair:l.Pairwise λp q=>p.name≠q.name∧eP p q=false
 met: ∀p∈l,∀c∈p.pre++p.dep,∃q∈l,c.any (di q)=true
theorem AT {c:Clause}{l:List Pkg}:iU c l=true↔ ∃q∈l,c.any (di q)=true:=by
 unfold iU
 simp only[List.any_eq_true]
 constructor
 ·rintro⟨a,ha,q,hq,h⟩
  exact⟨q,hq,a,ha,h⟩
 ·rintro⟨q,hq,a,ha,h⟩
  exact⟨a,ha,q,hq,h⟩
theorem FD {l bef:List Pkg}{p:Pkg}:pJ l bef p=false↔aY p=0∧(∀q∈bef,q.name≠p.name∧eP p q=false)∧ ∀c∈p.pre++p.dep,∃q∈l,c.any (di q)=true:=by
 unfold pJ
 simp only[Bool.or_eq_false_iff,bne_eq_false_iff_eq,List.any_eq_false,Bool.not_eq_true',Bool.not_eq_true,Bool.not_eq_false',List.mem_append,←AT]
 constructor
 ·rintro⟨⟨h1,h2⟩,h3,h4⟩
  refine⟨h1,λq hq=>?_,λc hc=>?_⟩
  ·have:=h2 q hq
   simp at this
   exact this
  ·rcases hc with hc|hc
   ·simpa using h3 c hc
   ·simpa using h4 c hc
 ·rintro⟨h1,h2,h3⟩
  refine⟨⟨h1,λq hq=>?_⟩,λc hc=>by simpa using h3 c (.inl hc),λc hc=>by simpa using h3 c (.inr hc)⟩
  have:=h2 q hq
  simp[this]
theorem vI {l:List Pkg}: ∀(r bef:List Pkg),rO l bef r=false↔(∀p∈r,aY p=0∧ ∀c∈p.pre++p.dep,∃q∈l,c.any (di q)=true)∧(∀p∈r,∀q∈bef,q.name≠p.name∧eP p q=false)∧r.Pairwise λq p=>q.name≠p.name∧eP p q=false
 |[],bef=>by simp[rO]
 |p::r,bef=>by
  rw[rO,Bool.or_eq_false_iff,FD,vI r,List.pairwise_cons]
  constructor
  ·rintro⟨⟨h1,h2,h3⟩,h4,h5,h6⟩
   refine⟨λx hx=>?_,λx hx q hq=>?_,λx hx=>h5 x hx p (by simp),h6⟩
   ·rcases List.mem_cons.1 hx with rfl|hx
    ·exact⟨h1,h3⟩
    ·exact h4 x hx
   ·rcases List.mem_cons.1 hx with rfl|hx
    ·exact h2 q hq
    ·exact h5 x hx q (by simp[hq])
  ·rintro⟨h1,h2,h3,h4⟩
   refine⟨⟨(h1 p (by simp)).1,λq hq=>h2 p (by simp) q hq,(h1 p (by simp)).2⟩,λx hx=>h1 x (by simp[hx]),λx hx q hq=>?_,h4⟩
   rcases List.mem_append.1 hq with hq|hq
   ·exact h2 x (by simp[hx]) q hq
   ·rw[List.mem_singleton.1 hq];exact h3 x hx
theorem rI {l:List Pkg}:ec l=true↔HL l:=by
 unfold ec
 rw[Bool.not_eq_true',vI]
 constructor
 ·rintro⟨h1,_,h3⟩
  exact⟨λp hp=>(h1 p hp).1,h3.imp λ{a b} h=>⟨h.1,by rw[oI];exact h.2⟩,λp hp=>(h1 p hp).2⟩
 ·intro h
  exact⟨λp hp=>⟨h.may p hp,h.met p hp⟩,by simp,h.pair.imp λ{a b} h=>⟨h.1,by rw[oI];exact h.2⟩⟩
theorem HL.perm {l m:List Pkg}(h:HL l)(hp:l.Perm m):HL m:=
 ⟨λp hm=>h.may p (hp.symm.subset hm),hp.pairwise h.pair λ{a b} h=>⟨λe=>h.1 e.symm,by rw[oI];exact h.2⟩,λp hm c hc=>by
  obtain⟨q,h1,h2⟩:=h.met p (hp.symm.subset hm) c hc
  exact⟨q,hp.subset h1,h2⟩⟩
def pick (S:Nat→Bool):Nat→List Pkg→List Pkg
 |_,[]=>[]
 |i,p::r=>if S i=true then p::pick S (i+1) r else pick S (i+1) r
end Go.Av
end
section
namespace Go.Proofs.Tryz
open Go Go.Av
def Mo (all:List Pkg)(S:Nat→Bool)(x:Clause):Prop:=∃ (m:Nat) (q:Pkg),all[m]?=some q∧x.any (di q)=true∧S m=true
def Mn (all:List Pkg)(S:Nat→Bool)(i:Nat)(x:Atom):Prop:=∀ (m:Nat) (q:Pkg),all[m]?=some q→S m=true→m≠i→di q x=false
structure Og (all:List Pkg)(S:Nat→Bool)(c:Nat×Nat×Nat):Prop where
 pre:c.2.1=1→ ∀p x,all[c.1]?=some p→p.pre[c.2.2]?=some x→Mo all S x
 dep:c.2.1=2→ ∀p x,all[c.1]?=some p→p.dep[c.2.2]?=some x→Mo all S x
 con:c.2.1=3→ ∀p x,all[c.1]?=some p→p.con[c.2.2]?=some x→Mn all S c.1 x
 brk:c.2.1=4→ ∀p x,all[c.1]?=some p→p.brk[c.2.2]?=some x→Mn all S c.1 x
structure Yu (all:List Pkg)(e:List (Nat×Nat×Nat))(S:Nat→Bool):Prop where
 name: ∀(a b:Nat) (p q:Pkg),all[a]?=some p→all[b]?=some q→a≠b→S a=true→S b=true→p.name≠q.name
 Yq: ∀c∈e,S c.1=true→Og all S c
end Go.Proofs.Tryz
end
section
namespace Go.Proofs.Tryz
open Go Go.Av
def L4 (all:List Pkg)(c:Nat×Nat×Nat):Clause:=match all[c.1]? with
 |some p=>(match c.2.1 with
  |1=>(p.pre[c.2.2]?).getD []
  |2=>(p.dep[c.2.2]?).getD []
  |3=>((p.con[c.2.2]?).map λx=>[x]).getD []
  |_=>((p.brk[c.2.2]?).map λx=>[x]).getD [])
 |none=>[]
def Ui (all:List Pkg)(cl:Clause)(m:Nat):Bool:=match all[m]? with
 |some q=>cl.any (di q)
 |none=>false
def cL (all:List Pkg)(cl:Clause)(n:Nat):List Nat:=(List.range n).filter (Ui all cl)
def CJ (all:List Pkg)(c:Nat×Nat×Nat):List Nat:=cL all (L4 all c) all.length
structure Yt (all:List Pkg)(e:List (Nat×Nat×Nat))(S:Nat→Bool):Prop where
 name: ∀i k,k<i→i<all.length→ML all k=ML all i→S i=true→S k=true→False
 con: ∀c∈e,(c.2.1=3∨c.2.1=4)→ ∀m∈CJ all c,m≠c.1→S c.1=true→S m=true→False
 dep: ∀c∈e,(c.2.1=1∨c.2.1=2)→S c.1=true→ ∃m∈CJ all c,S m=true
end Go.Proofs.Tryz
end
section
namespace Go.Proofs.Tryz
open Go Go.Av
set_option maxRecDepth 10000
variable {W0 :World}
theorem gV {x y a b:AV}(h1:cT x y)(h2:cT a b):cT (.tup [x,a]) (.tup [y,b]):=.tup rfl λi u v hu hv=>by
 rcases i with _|_|i<;>simp at hu hv
 ·subst hu hv;exact h1
 ·subst hu hv;exact h2
end Go.Proofs.Tryz
end
