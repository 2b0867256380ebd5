/- Texts that the last one of this claim rests on: a layer over the guide's own conditions for code; contracts of the functions that the law reaches, one by one. No conditions beside those of the given rows. -/
import Derived.Lib.Bytealg
import Derived.Test.YtbkobngljnnmgaaGreatDoorWad
import Derived.Test.YtbkobngljnnmgaaGreatDoorWaf
import Derived.Test.YtbkobngljnnmgaaGreatDoorWag
set_option linter.unusedSimpArgs false
set_option linter.unusedVariables false
open List renaming length_map->acO,take_of_length_le->acQ,mem_cons_self->acR,getElem?_eq_some_iff->acS,mem_of_getElem?->acT,drop_eq_getElem_cons->acU,drop_eq_nil_of_le->acV,mem_append->acW,mem_singleton->acX,dropWhile_cons->acZ,take_succ_cons->ac0,getElem_map->ac4,map_take->ac6,map_append->ac9,length_append->ada,getElem?_append_left->ade,mem_cons->adg,nodup_cons->adh,take_append_drop->adi,take_eq_take_iff->adj,takeWhile_cons->adl,getElem_of_mem->adm,map_cons->adn,getElem?_take->ado,pairwise_cons->adq,ext_getElem?->ads,map_map->adt,mem_map->adv,append_assoc->adw,any_eq_false->adz,any_append->adB,map_nil->adF
open Nat renaming zero_le->acP,lt_succ_iff_lt_or_eq->ac1,mod_eq_of_lt->ac3,lt_of_lt_of_le->adb,le_refl->adk,lt_or_ge->adr,le_trans->adu
open Bool renaming and_eq_true->acY,or_eq_false_iff->ac7,not_eq_true'->adf,not_eq_false'->adp,eq_iff_iff->adA,false_or->adD,and_true->adE
open Option renaming getD_some->ac2,bind_some->ac5,map_some->adC
open UInt8 renaming toNat_inj->ac8
open List.Nodup renaming sublist->adG
open Classical renaming not_not->adH
section
namespace Go.Av
open Go
def iH {α:Type}(q:α->Bool)(l:List α):Int:=match l.findIdx? q with|some i=>i|none=>-1
theorem fW {α:Type}{q:α->Bool}{l:List α}{i:Nat}{a:α}(h:l[i]?=some a)(hq:q a=true)(hn: ∀b∈l.take i,q b=false):iH q l=i:=by
 have:l.findIdx? q=some i:=by
  obtain⟨hi,he⟩:=acS.1 h;refine List.findIdx?_eq_some_iff_getElem.2 ⟨hi,by simp_all,λj hj=>?_⟩;have:=hn l[j] (acT (i:=j) (by simp_all));simp_all
 grind [iH]
theorem dG {α:Type}{q:α->Bool}{l:List α}(hn: ∀b∈l,q b=false):iH q l= -1:=by
 grind [iH]
theorem jd {α:Type}{q:α->Bool}{l:List α}:decide (0<=iH q l)=l.any q:=by
 grind [iH]
theorem cV {σ:ab}{id:Nat}{te:TypeId}{xs:List AV}(h:id<σ.length)(i:Nat)(path:List Nat):look (σ.set id (some (.cells te xs))) id i path=(xs[i]?).bind (·.at path):=by simp[look,h]
theorem ak {σ:ab}{id:Nat}{te:TypeId}{xs:List AV}(h:σ[id]?=some (some (.cells te xs)))(i:Nat)(path:List Nat):look σ id i path=(xs[i]?).bind (·.at path):=by simp[look,h]
theorem eh {σ:ab}{id:Nat}{te:TypeId}{xs:List AV}(h:id<σ.length)(i:Nat)(path:List Nat)(v:AV):dR (σ.set id (some (.cells te xs))) id i path v=σ.set id (some (.cells te (xs.set i ((xs[i]?.getD .undef).setAt path v)))):=by simp[dR,h]
theorem aC {σ:ab}{id:Nat}{te:TypeId}{xs:List AV}(h:σ[id]?=some (some (.cells te xs)))(i:Nat)(path:List Nat)(v:AV):dR σ id i path v=σ.set id (some (.cells te (xs.set i ((xs[i]?.getD .undef).setAt path v)))):=by simp[dR,h]
theorem fO {σ:ab}{id:Nat}{o:Option bK}(h:σ[id]?=some o):σ.set id o=σ:=by
 grind [List.set_getElem_self]
@[go_sem] theorem TD (t:TypeId)(fs:List AV)(k:Nat)(r:List Nat)(v:AV):(AV.agg t fs).setAt (k::r) v= .agg t (fs.set k ((fs[k]?.getD .undef).setAt r v)):=by
 grind [AV.setAt,List.set_eq_of_length_le]
theorem aj.go {P:Program}{W0:World}{A:aa}{g:FuncId}{caps us:List AV}{dst:Option Nat}{k:aa->Prop}{Q:AV->ab->Prop}{σ:ab}(hσ:A.st=σ)(h:aP P W0 g (us++caps) σ Q)(hk: ∀r σ',Q r σ'->k ((A.put dst r).ax σ')):aj P W0 (.fn g caps) us dst A k .mk:=by
 subst hσ;exact h.mono hk
theorem aj.goes {P:Program}{W0:World}{A:aa}{g:FuncId}{us:List AV}{dst:Option Nat}{k:aa->Prop}{Q:AV->ab->Prop}{σ:ab}(hσ:A.st=σ)(h:aP P W0 g us σ Q)(hk: ∀r σ',Q r σ'->k ((A.put dst r).ax σ')):aj P W0 (.fn g []) us dst A k .mk:=.go hσ (by simp_all) hk
theorem aj.reads {P:Program}{W0:World}{A:aa}{g:FuncId}{us:List AV}{dst:Option Nat}{k:aa->Prop}{r:AV}{σ:ab}(hσ:A.st=σ)(h:aP P W0 g us σ λr' σ'=>r'=r/\σ'=σ)(hk:k (A.put dst r)):aj P W0 (.fn g []) us dst A k .mk:=.goes hσ h λr' σ' ⟨h1,h2⟩=>by
 grind [pT]
theorem PJ (c:UInt8):IntKind.u8.wrap (c.toNat:Int)=c.toNat:=by
 have:=c.toNat_lt;show(c.toNat:Int) % 256=c.toNat;omega
theorem Ea {c:UInt8}(h:c.toNat<128):BZ (c.toNat:Int)=[c]:=by
 have hv:Utf8.valid (c.toNat:Int)=true:=by
  simp only[Utf8.valid];simp;omega
 have e:Utf8.encode (c.toNat:Int)=⟨#[UInt8.ofNat c.toNat]⟩:=by
  unfold Utf8.encode;rw[if_pos hv,if_pos (by simpa using h)];simp
 rw[BZ,e];simp
def jB (a b:List UInt8):Int:=if Op.bytesLess a b=true then-1 else if a=b then 0 else 1
def orL :List Int->Int
 |[]=>0
 |x::r=>if x≠0 then x else orL r
theorem rQ (s:List UInt8)(c:UInt8):Lib.indexByte s c=bD c s:=by
 induction s with
 |nil=>rfl
 |cons d r ih=>
  grind [Lib.indexByte,bD]
theorem D7 (s:List UInt8)(c:UInt8):decide (0<=bD c s)=s.contains c:=by
 grind [lQ]
def Of (c:UInt8)(s:List UInt8):List UInt8:=if 0<=bD c s then s.take (bD c s).toNat else s
def OG (c:UInt8)(s:List UInt8):List UInt8:=if 0<=bD c s then s.drop ((bD c s).toNat+1)else []
def vX (c:UInt8)(s:List UInt8):AV:=.tup [.str (Of c s),.str (OG c s),.bool (decide (0<=bD c s))]
theorem zu (c:UInt8)(s:List UInt8):aU 0 (vX c s):=by
 refine .tup λx hx=>?_
 simp at hx;rcases hx with rfl|rfl|rfl<;>first|exact .str _|exact .bool _
end Go.Av
end
section
namespace Go.Proofs.Tryz
open Go Go.Av
set_option maxRecDepth 10000
variable {W0 :World}
def aW (a:Atom):AV:=.agg 76 [.str a.name,.int .i64 a.rel,.str a.ver]
def aF (l:List Atom):AV:=.sl 76 (l.map aW)
def aA (l:List Clause):AV:=.sl 77 (l.map aF)
def dA (p:iR):AV:=.agg 179 [.str p.name,.str p.ver]
def ct (l:List iR):AV:=.sl 179 (l.map dA)
def ay (p:Pkg):AV:=.agg 51 [.str p.name,.str p.ver,aA p.pre,aA p.dep,aA p.rcm,aF p.con,aF p.brk,ct p.eX,.bool p.ess]
def aM (l:List Pkg):AV:=.sl 51 (l.map ay)
theorem G5 (s:List UInt8):ag prog W0 97 [.str s] (.bool (eD s)):=by
 refine an [2] [] func97 rfl rfl ntmps97 rfl rfl (.bool _) λhs σ=>?_
 have hsl:s.length<=maxLen:=dw (hs _ (by simp));simp only[go_sem,simprocAttr];refine VC.upto [] s.length (λi A=>A.env 0= .str s/\A.env 6= .int .i64 s.length/\A.env 7= .int .i64 i/\A.st=σ/\ ∀j c,j<i->s[j]?=some c->mN j c=true) 0 (acP _) (.here ?_) λi A hi ⟨h0,h6,h7,hst,hI⟩=>?_
 .simp only[go_sem,simprocAttr]
  all_goals simp
 simp only[go_sem,simprocAttr,h0,h6,h7,hst];refine⟨λhc=>⟨hc,aj.fn (CS _) ?_⟩,λhc=>?_⟩
 .obtain⟨c,hc'⟩:=get_some hc;simp only[go_sem,simprocAttr,hst,hc'];refine aB.fnG (λ_=>gq _) ?_;simp only[go_sem,simprocAttr,h7,hst];refine⟨λhb=>aq ?_,λhb=>⟨hc,.here ?_⟩⟩
  .grind [mN,eD,pL]
  .simp only[go_sem,simprocAttr,h0,h6,hst];refine⟨ah hc hsl,λj d hj hd=>?_⟩;rcases ac1.1 hj with hj|rfl
   .simp_all
   .have e:d=c:=by simp_all
    subst e
    revert hb
    unfold mN;cases jO d<;>cases bk d<;>simp
    omega
 grind [lD,aq,eD]
theorem FP (rel:Int):(!(F9 rel==[]))=(decide (1<=rel)&&decide (rel<=5)):=by
 grind [F9]
theorem EK (a:Atom):ag prog W0 113 [aW a] (.bool (cu a)):=by
 refine an [2] [1] func113 rfl rfl ntmps113 rfl rfl (.bool _) λhs σ=>?_
 simp only[go_sem,simprocAttr,aW];refine aj.fn (G5 a.name) ?_;simp only[go_sem,simprocAttr];refine⟨λhn=>aq (by grind [cu]),λhn=>⟨λh0=>aq (by grind [cu]),λh0=>aj.fn (Lj a.rel) ?_⟩⟩;simp only[go_sem,simprocAttr];refine aB.fnG (λ_=>GZ a.ver) ?_;simp only[go_sem,simprocAttr];grind [aq,cu,FP]
theorem rr (c:UInt8):ag prog W0 230 [.int .u8 c.toNat] (.bool (bk c)):=by
 refine an [2] [] func230 rfl rfl ntmps230 rfl rfl (.bool _) λ_ σ=>?_
 simp only[go_sem,simprocAttr];grind [aq,bk]
theorem ya (c:UInt8):ag prog W0 274 [.int .u8 c.toNat] (.bool (eB c)):=by
 refine an [2] [] func274 rfl rfl ntmps274 rfl rfl (.bool _) λ_ σ=>?_
 simp only[go_sem,simprocAttr];grind [aq,eB,jO]
theorem Fo (s:List UInt8):ag prog W0 228 [.str s] (.bool (decide (1<=s.length)&&decide (s.length<=9)&&s.all bk)):=by
 refine an [2] [] func228 rfl rfl ntmps228 rfl rfl (.bool _) λhs σ=>?_
 simp only[go_sem,simprocAttr];refine⟨λh=>aq ?_,λh=>?_⟩
 .grind
 have hl:1<=s.length/\s.length<=9:=by grind
 refine VC.cE [] (λk A=>∃ pos,A.env 13= .it σ.length/\A.st=σ++[some (.iter s pos)]/\k=s.length-pos/\pos<=s.length/\(s.take pos).all bk=true) s.length (.here ⟨0,?_⟩) λk A ⟨pos,h13,hst,hk,hp,hI⟩=>?_
 .simp only[go_sem,simprocAttr];simp_all
 simp only[go_sem,simprocAttr,h13,hst];refine⟨λhlt=>?_,λhge=>?_⟩
 .obtain⟨c,hc⟩:=get_some hlt;simp only[Bool.or_eq_true,ac7,decide_eq_true_eq,decide_eq_false_iff_not];have bad:bk c=false->(decide (1<=s.length)&&decide (s.length<=9)&&s.all bk)=false:=λhd=>by grind
  rcases adr c.toNat 128 with h8|h8
  .rw[nQ hc h8];refine⟨λhb=>aq (bad ?_).symm,λhb=>.here (s.length-(pos+1)) (by omega) ⟨pos+1,?_⟩⟩
   .grind [bk]
   .simp only[go_sem,simprocAttr,h13];grind [oJ,bk]
  grind [sn,aq,bk]
 grind [aq]
theorem Ou {α:Type}(enc:α->AV)(hp: ∀a,dd (enc a))(l:List α)(q:α->Bool)(g:FuncId)(caps:List AV)(h: ∀a∈l,ag prog W0 g ([enc a]++caps) (.bool (q a))):
  ag prog W0 231 [.sl 76 (l.map enc),.fn g caps] (.int .i64 (iH q l)):=by
 refine an [4] [] func231 rfl rfl ntmps231 rfl rfl (.int _ _) λhs σ=>?_
 have hl:=(aQ (hs _ (acR ..))).1;simp only[go_sem,simprocAttr];refine ae.upto [0,1,7] (.of (by kernel_rfl)) l.length (λi A=>A.env 8= .int .i64 i/\A.st=σ/\ ∀a∈l.take i,q a=false) 0 (acP _) ?_ λi B hi ⟨h8,hst,hI⟩=>?_
 .simp only[go_sem,simprocAttr]
  all_goals simp
 simp only[go_sem,simprocAttr,h8,hst,acO];refine⟨λhc=>⟨hc,?_⟩,λhc=>az ?_⟩
 .obtain⟨a,ha⟩:=get_some hc;simp only[aw ha,cq (hp a),cY (hp a),true_and];refine aj.pure (h a (acT ha)) ?_;simp only[go_sem,simprocAttr,h8,hst];refine⟨λhq=>az (fW ha hq hI).symm,λhq=>⟨hc,ah hc hl,?_⟩⟩;rw[ai ha];intro b hb;rcases acW.1 hb with hb|hb
  .exact hI b hb
  .rw[acX.1 hb];exact hq
 .rw[dG]
  rwa [acQ hc]at hI
theorem TQ {α:Type}(enc:α->AV)(hp: ∀a,dd (enc a))(l:List α)(q:α->Bool)(g:FuncId)(caps:List AV)(h: ∀a∈l,ag prog W0 g ([enc a]++caps) (.bool (q a))):
  ag prog W0 280 [.sl 76 (l.map enc),.fn g caps] (.int .i64 (iH q l)):=by
 refine an [4] [] func280 rfl rfl ntmps280 rfl rfl (.int _ _) λhs σ=>?_
 have hl:=(aQ (hs _ (acR ..))).1;simp only[go_sem,simprocAttr];refine ae.upto [0,1,7] (.of (by kernel_rfl)) l.length (λi A=>A.env 8= .int .i64 i/\A.st=σ/\ ∀a∈l.take i,q a=false) 0 (acP _) ?_ λi B hi ⟨h8,hst,hI⟩=>?_
 .simp only[go_sem,simprocAttr]
  all_goals simp
 simp only[go_sem,simprocAttr,h8,hst,acO];refine⟨λhc=>⟨hc,?_⟩,λhc=>az ?_⟩
 .obtain⟨a,ha⟩:=get_some hc;simp only[aw ha,cq (hp a),cY (hp a),true_and];refine aj.pure (h a (acT ha)) ?_;simp only[go_sem,simprocAttr,h8,hst];refine⟨λhq=>az (fW ha hq hI).symm,λhq=>⟨hc,ah hc hl,?_⟩⟩;rw[ai ha];intro b hb;rcases acW.1 hb with hb|hb
  .exact hI b hb
  .rw[acX.1 hb];exact hq
 .rw[dG]
  rwa [acQ hc]at hI
theorem Xu {α:Type}(enc:α->AV)(hp: ∀a,dd (enc a))(l:List α)(q:α->Bool)(g:FuncId)(caps:List AV)(h: ∀a∈l,ag prog W0 g ([enc a]++caps) (.bool (q a))):
  ag prog W0 129 [.sl 51 (l.map enc),.fn g caps] (.int .i64 (iH q l)):=by
 refine an [4] [] func129 rfl rfl ntmps129 rfl rfl (.int _ _) λhs σ=>?_
 have hl:=(aQ (hs _ (acR ..))).1;simp only[go_sem,simprocAttr];refine ae.upto [0,1,7] (.of (by kernel_rfl)) l.length (λi A=>A.env 8= .int .i64 i/\A.st=σ/\ ∀a∈l.take i,q a=false) 0 (acP _) ?_ λi B hi ⟨h8,hst,hI⟩=>?_
 .simp only[go_sem,simprocAttr]
  all_goals simp
 simp only[go_sem,simprocAttr,h8,hst,acO];refine⟨λhc=>⟨hc,?_⟩,λhc=>az ?_⟩
 .obtain⟨a,ha⟩:=get_some hc;simp only[aw ha,cq (hp a),cY (hp a),true_and];refine aj.pure (h a (acT ha)) ?_;simp only[go_sem,simprocAttr,h8,hst];refine⟨λhq=>az (fW ha hq hI).symm,λhq=>⟨hc,ah hc hl,?_⟩⟩;rw[ai ha];intro b hb;rcases acW.1 hb with hb|hb
  .exact hI b hb
  .rw[acX.1 hb];exact hq
 .rw[dG]
  rwa [acQ hc]at hI
theorem RF {α:Type}(enc:α->AV)(hp: ∀a,dd (enc a))(l:List α)(q:α->Bool)(g:FuncId)(caps:List AV)(h: ∀a∈l,ag prog W0 g ([enc a]++caps) (.bool (q a))):
  ag prog W0 232 [.sl 179 (l.map enc),.fn g caps] (.int .i64 (iH q l)):=by
 refine an [4] [] func232 rfl rfl ntmps232 rfl rfl (.int _ _) λhs σ=>?_
 have hl:=(aQ (hs _ (acR ..))).1;simp only[go_sem,simprocAttr];refine ae.upto [0,1,7] (.of (by kernel_rfl)) l.length (λi A=>A.env 8= .int .i64 i/\A.st=σ/\ ∀a∈l.take i,q a=false) 0 (acP _) ?_ λi B hi ⟨h8,hst,hI⟩=>?_
 .simp only[go_sem,simprocAttr]
  all_goals simp
 simp only[go_sem,simprocAttr,h8,hst,acO];refine⟨λhc=>⟨hc,?_⟩,λhc=>az ?_⟩
 .obtain⟨a,ha⟩:=get_some hc;simp only[aw ha,cq (hp a),cY (hp a),true_and];refine aj.pure (h a (acT ha)) ?_;simp only[go_sem,simprocAttr,h8,hst];refine⟨λhq=>az (fW ha hq hI).symm,λhq=>⟨hc,ah hc hl,?_⟩⟩;rw[ai ha];intro b hb;rcases acW.1 hb with hb|hb
  .exact hI b hb
  .rw[acX.1 hb];exact hq
 .rw[dG]
  rwa [acQ hc]at hI
theorem JZ {α:Type}(enc:α->AV)(hp: ∀a,dd (enc a))(l:List α)(q:α->Bool)(g:FuncId)(caps:List AV)(h: ∀a∈l,ag prog W0 g ([enc a]++caps) (.bool (q a))):
  ag prog W0 281 [.sl 77 (l.map enc),.fn g caps] (.int .i64 (iH q l)):=by
 refine an [4] [] func281 rfl rfl ntmps281 rfl rfl (.int _ _) λhs σ=>?_
 have hl:=(aQ (hs _ (acR ..))).1;simp only[go_sem,simprocAttr];refine ae.upto [0,1,7] (.of (by kernel_rfl)) l.length (λi A=>A.env 8= .int .i64 i/\A.st=σ/\ ∀a∈l.take i,q a=false) 0 (acP _) ?_ λi B hi ⟨h8,hst,hI⟩=>?_
 .simp only[go_sem,simprocAttr]
  all_goals simp
 simp only[go_sem,simprocAttr,h8,hst,acO];refine⟨λhc=>⟨hc,?_⟩,λhc=>az ?_⟩
 .obtain⟨a,ha⟩:=get_some hc;simp only[aw ha,cq (hp a),cY (hp a),true_and];refine aj.pure (h a (acT ha)) ?_;simp only[go_sem,simprocAttr,h8,hst];refine⟨λhq=>az (fW ha hq hI).symm,λhq=>⟨hc,ah hc hl,?_⟩⟩;rw[ai ha];intro b hb;rcases acW.1 hb with hb|hb
  .exact hI b hb
  .rw[acX.1 hb];exact hq
 .rw[dG]
  rwa [acQ hc]at hI
theorem Ax {α:Type}(enc:α->AV)(hp: ∀a,dd (enc a))(l:List α)(q:α->Bool)(g:FuncId)(caps:List AV)(h: ∀a∈l,ag prog W0 g ([enc a]++caps) (.bool (q a))):
  ag prog W0 185 [.sl 76 (l.map enc),.fn g caps] (.bool (l.any q)):=by
 refine an [4] [] func185 rfl rfl ntmps185 rfl rfl (.bool _) λhs σ=>?_
 simp only[go_sem,simprocAttr];refine aj.fn (Ou enc hp l q g caps h) ?_;simp only[go_sem,simprocAttr];exact aq jd
theorem Lr {α:Type}(enc:α->AV)(hp: ∀a,dd (enc a))(l:List α)(q:α->Bool)(g:FuncId)(caps:List AV)(h: ∀a∈l,ag prog W0 g ([enc a]++caps) (.bool (q a))):
  ag prog W0 243 [.sl 76 (l.map enc),.fn g caps] (.bool (l.any q)):=by
 refine an [4] [] func243 rfl rfl ntmps243 rfl rfl (.bool _) λhs σ=>?_
 simp only[go_sem,simprocAttr];refine aj.fn (TQ enc hp l q g caps h) ?_;simp only[go_sem,simprocAttr];exact aq jd
theorem Q0 {α:Type}(enc:α->AV)(hp: ∀a,dd (enc a))(l:List α)(q:α->Bool)(g:FuncId)(caps:List AV)(h: ∀a∈l,ag prog W0 g ([enc a]++caps) (.bool (q a))):
  ag prog W0 75 [.sl 51 (l.map enc),.fn g caps] (.bool (l.any q)):=by
 refine an [4] [] func75 rfl rfl ntmps75 rfl rfl (.bool _) λhs σ=>?_
 simp only[go_sem,simprocAttr];refine aj.fn (Xu enc hp l q g caps h) ?_;simp only[go_sem,simprocAttr];exact aq jd
theorem RS {α:Type}(enc:α->AV)(hp: ∀a,dd (enc a))(l:List α)(q:α->Bool)(g:FuncId)(caps:List AV)(h: ∀a∈l,ag prog W0 g ([enc a]++caps) (.bool (q a))):
  ag prog W0 189 [.sl 179 (l.map enc),.fn g caps] (.bool (l.any q)):=by
 refine an [4] [] func189 rfl rfl ntmps189 rfl rfl (.bool _) λhs σ=>?_
 simp only[go_sem,simprocAttr];refine aj.fn (RF enc hp l q g caps h) ?_;simp only[go_sem,simprocAttr];exact aq jd
theorem Mg {α:Type}(enc:α->AV)(hp: ∀a,dd (enc a))(l:List α)(q:α->Bool)(g:FuncId)(caps:List AV)(h: ∀a∈l,ag prog W0 g ([enc a]++caps) (.bool (q a))):
  ag prog W0 244 [.sl 77 (l.map enc),.fn g caps] (.bool (l.any q)):=by
 refine an [4] [] func244 rfl rfl ntmps244 rfl rfl (.bool _) λhs σ=>?_
 simp only[go_sem,simprocAttr];refine aj.fn (JZ enc hp l q g caps h) ?_;simp only[go_sem,simprocAttr];exact aq jd
theorem T1 (l:List (List UInt8))(s:List UInt8):ag prog W0 225 [.sl 9 (l.map .str),.str s] (.int .i64 (iH (λx=>s==x) l)):=by
 refine an [4] [] func225 rfl rfl ntmps225 rfl rfl (.int _ _) λhs σ=>?_
 have hl:=(aQ (hs _ (acR ..))).1;simp only[go_sem,simprocAttr];refine ae.upto [0,1,7] (.of (by kernel_rfl)) l.length (λi A=>A.env 8= .int .i64 i/\A.st=σ/\ ∀a∈l.take i,(s==a)=false) 0 (acP _) ?_ λi B hi ⟨h8,hst,hI⟩=>?_
 .simp only[go_sem,simprocAttr];simp_all
 simp only[go_sem,simprocAttr,h8,hst,acO];refine⟨λhc=>⟨hc,?_⟩,λhc=>az ?_⟩
 .obtain⟨a,ha⟩:=get_some hc;simp only[aw ha];simp only[go_sem,simprocAttr];refine⟨λhq=>az (fW (q:=λx=>s==x) ha (by simp_all) hI).symm,λhq=>⟨hc,ah hc hl,?_⟩⟩;rw[ai ha];grind
 grind [dG]
theorem FZ (l:List (List UInt8))(s:List UInt8):ag prog W0 182 [.sl 9 (l.map .str),.str s] (.bool (l.any λx=>s==x)):=by
 refine an [4] [] func182 rfl rfl ntmps182 rfl rfl (.bool _) λhs σ=>?_
 simp only[go_sem,simprocAttr];refine aj.fn (T1 l s) ?_;simp only[go_sem,simprocAttr];exact aq jd
theorem KU (a:Int):ag prog W0 332 [.int .i64 a] (.bool false):=by
 refine an [2] [] func332 rfl rfl ntmps332 rfl rfl (.bool _) λhs σ=>?_
 simp only[go_sem,simprocAttr];exact aq (by simp)
theorem Ly (a b:Int):ag prog W0 297 [.int .i64 a,.int .i64 b] (.int .i64 (sgn a b)):=by
 refine an [4] [] func297 rfl rfl ntmps297 rfl rfl (.int _ _) λhs σ=>?_
 simp only[go_sem,simprocAttr];refine aj.fn (KU a) ?_;simp only[go_sem,simprocAttr];refine aj.fn (KU b) ?_;simp only[go_sem,simprocAttr];refine⟨λh=>az (by simp[sgn,h]),λh=>⟨λh'=>az (by simp[sgn,h'];omega),λh'=>az (by rw[sgn,if_neg (by omega),if_neg (by omega)])⟩⟩
theorem GG (s:List UInt8):ag prog W0 204 [.str s] (.bool false):=by
 refine an [2] [] func204 rfl rfl ntmps204 rfl rfl (.bool _) λhs σ=>?_
 simp only[go_sem,simprocAttr]
theorem AN (a b:List UInt8):ag prog W0 140 [.str a,.str b] (.int .i64 (jB a b)):=by
 refine an [4] [] func140 rfl rfl ntmps140 rfl rfl (.int _ _) λhs σ=>?_
 simp only[go_sem,simprocAttr];refine aj.fn (GG a) ?_;simp only[go_sem,simprocAttr];refine aj.fn (GG b) ?_;simp only[go_sem,simprocAttr];grind [az,jB]
theorem KB (l:List Int):ag prog W0 139 [.sl 3 (l.map (.int .i64))] (.int .i64 (orL l)):=by
 refine an [2] [] func139 rfl rfl ntmps139 rfl rfl (.int _ _) λhs σ=>?_
 have hl:=(aQ (hs _ (acR ..))).1;simp only[go_sem,simprocAttr];refine ae.upto [3,6,7] (.of (by kernel_rfl)) l.length (λi A=>A.env 8= .int .i64 i/\A.st=σ/\orL (l.drop i)=orL l) 0 (acP _) ?_ λi B hi ⟨h8,hst,hI⟩=>?_
 .simp only[go_sem,simprocAttr]
  all_goals simp
 simp only[go_sem,simprocAttr,h8,hst,acO];refine⟨λhc=>⟨hc,?_⟩,λhc=>az ?_⟩
 .obtain⟨a,ha⟩:=get_some hc;obtain⟨hlt,hae⟩:=acS.1 ha;simp only[aw ha];simp only[go_sem,simprocAttr];grind [acU,az,orL,ah]
 .rw[acV hc]at hI;exact hI
theorem A6 (s:List UInt8)(c:UInt8):ag prog W0 358 [.str s,.int .u8 c.toNat] (.int .i64 (bD c s)):=by
 refine SV (e:=Extern.BytealgIndexByte.indexByte) func358 (by kernel_rfl) (by kernel_rfl) (by kernel_rfl) (by kernel_rfl) λw C vs hl hv=>?_
 obtain⟨x,y,rfl⟩: ∃x y,vs=[x,y]:=by
  match vs,hl with
  |[x,y],_=>simp_all
 obtain⟨hx,_⟩:=(hv 0 _ x rfl rfl).gD;have hy:=(hv 1 _ y rfl rfl).cB;subst hx hy;refine⟨_,Lib.run_indexByteString _ _ w,?_⟩;have e:Lib.indexByte s (c.toNat:Int).toNat.toUInt8=bD c s:=by rw[show(c.toNat:Int).toNat.toUInt8=c by simp];simp[rQ]
 rw[show(ByteArray.mk s.toArray).data.toList=s from rfl,e];exact .one rfl (.int _ _)
theorem AR (s:List UInt8)(c:UInt8):ag prog W0 345 [.str s,.int .u8 c.toNat] (.int .i64 (bD c s)):=by
 refine an [4] [] func345 rfl rfl ntmps345 rfl rfl (.int _ _) λhs σ=>?_
 simp only[go_sem,simprocAttr];refine aj.fn (A6 s c) ?_;simp only[go_sem,simprocAttr]
theorem Dr (s:List UInt8)(c:UInt8):ag prog W0 313 [.str s,.str [c]] (.int .i64 (bD c s)):=by
 refine an [4] [] func313 rfl rfl ntmps313 rfl rfl (.int _ _) λhs σ=>?_
 simp only[go_sem,simprocAttr];refine⟨λh=>az (by grind [bD]),λh=>aj.fn (AR s c) ?_⟩;simp only[go_sem,simprocAttr]
theorem JX (s:List UInt8)(c:UInt8):ag prog W0 314 [.str s,.str [c]] (.int .i64 (bD c s)):=by
 refine an [4] [] func314 rfl rfl ntmps314 rfl rfl (.int _ _) λhs σ=>?_
 simp only[go_sem,simprocAttr];refine aj.fn (Dr s c) ?_;simp only[go_sem,simprocAttr]
theorem A9 (s:List UInt8)(c:UInt8):ag prog W0 275 [.str s,.str [c]] (.bool (s.contains c)):=by
 refine an [4] [] func275 rfl rfl ntmps275 rfl rfl (.bool _) λhs σ=>?_
 simp only[go_sem,simprocAttr];refine aj.fn (JX s c) ?_;simp only[go_sem,simprocAttr];simp[aq,D7]
theorem Tf (s:List UInt8)(c:UInt8):ag prog W0 272 [.str s,.str [c]] (vX c s):=by
 refine an [4,5,6] [] func272 rfl rfl ntmps272 rfl rfl (zu c s) λhs σ=>?_
 have hl:s.length<=maxLen:=dw (hs _ (by simp));simp only[go_sem,simprocAttr];refine aj.fn (Dr s c) ?_;simp only[go_sem,simprocAttr];refine⟨λh=>?_,λh=>?_⟩
 .obtain⟨i,hi,hg,hlt⟩:=(lQ c s).resolve_left (λe=>by omega);rw[hi];have hw:IntKind.i64.wrap ((i:Int)+1)=((i+1:Nat):Int):=j9 hlt hl;simp only[go_sem,simprocAttr,hw];refine⟨.of (by kernel_rfl),by omega,by omega,?_⟩;rw[vX,Of,OG,hi,if_pos (by omega),if_pos (by omega),Int.toNat_natCast,decide_eq_true (by omega)];exact .refl _
 .have h:=h;simp at h;rw[vX,Of,OG,if_neg (by omega),if_neg (by omega),decide_eq_false (by omega)];exact .refl _
theorem T8 (s:List UInt8)(c:UInt8):ag prog W0 226 [.str s,.str [c]] (vX c s):=by
 refine an [4,5,6] [] func226 rfl rfl ntmps226 rfl rfl (zu c s) λhs σ=>?_
 simp only[go_sem,simprocAttr];refine aj.fn (Tf s c) ?_;simp only[go_sem,simprocAttr,vX]
theorem sU (s:List UInt8)(c:UInt8):ag prog W0 273 [.str s,.int .u8 c.toNat] (.int .i64 (lastOf c s)):=by
 refine an [4] [] func273 rfl rfl ntmps273 rfl rfl (.int _ _) λhs σ=>?_
 have hsl:s.length<=9223372036854775807:=dw (hs _ (by simp));simp only[go_sem,simprocAttr];refine ae.cE [0,1] (.of (by kernel_rfl)) (λk A=>A.env 5= .int .i64 ((k:Int)-1)/\A.st=σ/\k<=s.length/\lastOf c s=kb c s k) s.length ?_ λk B ⟨h5,hst,hk,hI⟩=>?_
 .simp only[go_sem,simprocAttr];exact⟨by grind [aH],rfl⟩
 simp only[go_sem,simprocAttr,h5,hst];refine⟨λhc=>?_,λhc=>?_⟩
 .obtain⟨k,rfl⟩: ∃j,k=j+1:=⟨k-1,by omega⟩;have e:(((k+1:Nat):Int)-1)=(k:Int):=by omega
  simp only[go_sem,simprocAttr,e];obtain⟨x,hx⟩:=get_some (show k<s.length by omega);simp only[hx,ac2];refine⟨by omega,λh=>az ?_,λh=>.here k (by omega) ?_⟩
  .grind [kb]
  .simp only[go_sem,simprocAttr,hst];grind [aH,kb]
 .have:k=0:=by omega
  subst this;exact az (by rw[hI];rfl)
theorem sE (s:List UInt8)(c:UInt8):ag prog W0 227 [.str s,.int .u8 c.toNat] (.int .i64 (lastOf c s)):=by
 refine an [4] [] func227 rfl rfl ntmps227 rfl rfl (.int _ _) λhs σ=>?_
 simp only[go_sem,simprocAttr];refine aj.fn (sU s c) ?_;simp only[go_sem,simprocAttr]
theorem ua (s:List UInt8)(c:UInt8):ag prog W0 361 [.str s,.int .u8 c.toNat] (.str (s.dropWhile (· ==c))):=by
 refine an [4] [] func361 rfl rfl ntmps361 rfl rfl (.str _) λhs σ=>?_
 simp only[go_sem,simprocAttr];refine ae.cE [1] (.of (by kernel_rfl)) (λk A=>∃ x,A.env 0= .str x/\A.st=σ/\k=x.length/\x.dropWhile (· ==c)=s.dropWhile (· ==c)) s.length ⟨s,?_⟩ λk B ⟨x,h0,hst,hk,hI⟩=>?_
 .simp only[go_sem,simprocAttr]
 cases x with
 |nil=>
  simp only[go_sem,simprocAttr,h0,hst];exact oH hI
 |cons d r=>
  simp only[go_sem,simprocAttr,h0,hst];refine⟨λh=>.here r.length (by simp[hk]) ⟨r,?_⟩,λh=>oH ?_⟩
  .simp only[go_sem,simprocAttr,hst];grind [acZ,ac8]
  grind [acZ]
theorem Cx (s:List UInt8)(c:UInt8)(hc:c.toNat<128):ag prog W0 352 [.str s,.str [c]] (.str (s.dropWhile (· ==c))):=by
 refine an [4] [] func352 rfl rfl ntmps352 rfl rfl (.str _) λhs σ=>?_
 cases s with
 |nil=>simp only[go_sem,simprocAttr];exact .refl _
 |cons d r=>
  have hc':((c.toNat:Int)<128):=by omega
  simp only[go_sem,simprocAttr,hc'];refine aj.fn (ua (d::r) c) ?_;simp only[go_sem,simprocAttr]
end Go.Proofs.Tryz
end
section
namespace Go.Av
def Hb (c:UInt8):Int:=if c.toNat=126 then-1 else if eB c then c.toNat else c.toNat+256
def rkP :List UInt8->Int
 |[]=>0
 |c::_=>if bk c then 0 else Hb c
theorem FC {c:UInt8}(h:eB c=true):65<=c.toNat/\c.toNat<=122:=by
 grind [eB,jO]
theorem se (c:UInt8)(h:bk c=false):(rk [c]= -1/\rkP [c]= -1/\c.toNat=126)\/(rk [c]=1+c.toNat/\rkP [c]=c.toNat/\65<=c.toNat/\c.toNat<=122)\/(rk [c]=300+c.toNat/\rkP [c]=256+c.toNat/\True):=by
 grind [rk,rkP,vd,Hb,FC]
theorem Gn (a:List UInt8):(rk a=0/\rkP a=0)\/ ∃c r,a=c::r/\bk c=false/\rk a=rk [c]/\rkP a=rkP [c]:=by
 cases a with
 |nil=>exact .inl ⟨rfl,rfl⟩
 |cons c r=>
  grind [rk,rkP]
theorem F8 (a b:List UInt8):sgn (rkP a) (rkP b)=sgn (rk a) (rk b):=by
 have key:(rkP a<rkP b↔rk a<rk b)/\(rkP a>rkP b↔rk a>rk b):=by
  rcases Gn a with⟨a1,a2⟩|⟨c,r,_,hc,a1,a2⟩<;>rcases Gn b with⟨b1,b2⟩|⟨d,r',_,hd,b1,b2⟩
  .omega
  .grind [se]
  .grind [se]
  grind [se]
 grind [sgn]
theorem Bh {a b:Int}:sgn a b=0↔a=b:=⟨qt,λh=>by rw[h,qR]⟩
theorem EO (a b:List UInt8):rkP a=rkP b↔rk a=rk b:=by rw[<-Bh,F8,Bh]
theorem vD (a:List UInt8):rkP a=0↔rk a=0:=EO a []
theorem Bg {a:List UInt8}(h:rk a=0):bO a=a:=by
 cases a with
 |nil=>rfl
 |cons c r=>
  simp_all[bO,rk,K7]
theorem ES {a:List UInt8}(h:rk a≠0):bO a.tail=bO a:=by
 obtain⟨c,r,rfl,hd⟩:=BU h;simp[bO,hd]
def kF (s:List UInt8):List UInt8:=(s.takeWhile bk).dropWhile (· ==48)
def jA (s:List UInt8):List UInt8:=s.dropWhile bk
theorem Nl :bk 48=true:=by decide
theorem pq (s:List UInt8):kF s=(gr s).take (bU (gr s))/\jA s=(gr s).drop (bU (gr s)):=by
 have key: ∀s:List UInt8,s.takeWhile bk=s.take (bU s)/\s.dropWhile bk=s.drop (bU s):=λs=>by
  induction s with
  |nil=>simp_all
  |cons c r ih=>
   grind [bU,adl,acZ]
 induction s with
 |nil=>exact⟨rfl,rfl⟩
 |cons c r ih=>
  by_cases h0:c=48
  .subst h0;have e1:gr (48::r)=gr r:=by simp[gr]
   rw[e1,<-ih.1,<-ih.2];simp[kF,Nl,jA]
  .have e1:gr (c::r)=c::r:=by simp[gr,h0]
   rw[e1,<-(key (c::r)).1,<-(key (c::r)).2];refine⟨?_,rfl⟩;unfold kF;cases h:bk c with
   |true=>simp[h,h0]
   |false=>simp[h]
theorem Ci (s:List UInt8):(s.take (bU s)).length=bU s:=by
 simp[qZ]
theorem BW : ∀(a b:List UInt8),a.length=b.length->jB a b=iF a b
 |[],[],_=>rfl
 |[],_::_,h=>by simp at h
 |_::_,[],h=>by simp at h
 |x::a,y::b,h=>by
  have ih:=BW a b (by simp_all);unfold iF;grind [jB,Op.bytesLess,ac8,UInt8.lt_iff_toNat_lt,sgn]
def HI (x y:List UInt8):Int:=if (kF x).length≠(kF y).length then sgn (kF x).length (kF y).length else jB (kF x) (kF y)
theorem Ca (s:List UInt8):(jA s).length<=s.length:=fT s
theorem p7 {a b:List UInt8}(h: ¬(a=[]/\b=[])):br a b=if cw a b≠0 then cw a b else if HI (bO a) (bO b)≠0 then HI (bO a) (bO b)else br (jA (bO a)) (jA (bO b)):=by
 rw[br,dif_neg h];split
 .rfl
 .have ha:=pq (bO a);have hb:=pq (bO b);have la:(kF (bO a)).length=bU (bc a):=by rw[ha.1];exact Ci _
  have lb:(kF (bO b)).length=bU (bc b):=by rw[hb.1];exact Ci _
  have e1:(bc a).take (bU (bc a))=kF (bO a):=ha.1.symm;have e2:(bc b).take (bU (bc b))=kF (bO b):=hb.1.symm;have e3:(bc a).drop (bU (bc a))=jA (bO a):=ha.2.symm;have e4:(bc b).drop (bU (bc b))=jA (bO b):=hb.2.symm;grind [HI,BW,qt]
theorem Fv {a b:List UInt8}(h: ¬(a=[]/\b=[])):(jA (bO a)).length+(jA (bO b)).length<a.length+b.length:=by
 rw[(pq (bO a)).2,(pq (bO b)).2];exact xi h
def gl :Option (List UInt8×List UInt8×List UInt8)->AV
 |none=>.tup [.str [],.str [],.str [],.int .i64 3]
 |some (e,u,r)=>.tup [.str e,.str u,.str r,.int .i64 0]
theorem El (v:Option (List UInt8×List UInt8×List UInt8)):aU 0 (gl v):=by
 cases v<;>refine .tup λx hx=>?_<;>simp at hx<;>rcases hx with rfl|rfl|rfl|rfl<;>first|exact .str _|exact .int _ _
def ofV (beside:List UInt8)(s:List UInt8):Bool:=s.all λc=>bk c||eB c||beside.contains c
theorem OZ (s:List UInt8):ofV [43,46,126] s=s.all tz:=by
 unfold ofV;congr 1;funext c;have h: ∀n:Nat,n<256->((c==(n.toUInt8))=((c.toNat:Int)==(n:Int))):=λn hn=>by
  rw[adA];simp only[beq_iff_eq];constructor
  .simp_all[ac3]
  .intro e;apply ac8.1;simp[ac3 hn];omega
 have h1:=h 43 (by omega);have h2:=h 46 (by omega);have h3:=h 126 (by omega);grind [tz]
theorem Rs (s:List UInt8):ofV [43,46,126,45,58] s=s.all Dh:=by
 unfold ofV;congr 1;funext c;have h: ∀n:Nat,n<256->((c==(n.toUInt8))=((c.toNat:Int)==(n:Int))):=λn hn=>by
  rw[adA];simp only[beq_iff_eq];constructor
  .simp_all[ac3]
  .intro e;apply ac8.1;simp[ac3 hn];omega
 have h1:=h 43 (by omega);have h2:=h 46 (by omega);have h3:=h 126 (by omega);have h4:=h 45 (by omega);have h5:=h 58 (by omega);grind [Dh]
theorem O2 (s:List UInt8):fC s=if s.length=0\/48<s.length then none else
  (let et:=if 0<=bD 58 s then(s.take (bD 58 s).toNat,s.drop ((bD 58 s).toNat+1))else([48],s)
   match uG et.2 with
   |none=>none
   |some (u,r)=>if (decide (1<=et.1.length)&&decide (et.1.length<=9)&&et.1.all bk)&&ofV [43,46,126] r&&iw u&&ofV [43,46,126,45,58] u then some (et.1,u,r)else none):=by
 rw[fC];split
 .rfl
 simp only[sa,OZ,Rs];by_cases hf:0<=bD 58 s
 .grind
 grind [bk]
end Go.Av
end
section
namespace Go.Proofs.Tryz
open Go Go.Av
set_option maxRecDepth 10000
variable {W0 :World}
theorem GL (s:List UInt8):ag prog W0 324 [.str s] (.int .i64 (rkP s)):=by
 refine an [2] [] func324 rfl rfl ntmps324 rfl rfl (.int _ _) λhs σ=>?_
 cases s with
 |nil=>
  simp only[go_sem,simprocAttr];refine aB.fnG (λh=>by simp at h) (r:=.bool false) ?_;simp only[go_sem,simprocAttr];exact .refl _
 |cons c r=>
  have h8:=c.toNat_lt;simp only[go_sem,simprocAttr];refine aB.fnG (λ_=>rr c) ?_;simp only[go_sem,simprocAttr];refine⟨λh=>az (by simp[rkP,h]),λh=>⟨λh'=>az ?_,λh'=>aj.fn (ya c) ?_⟩⟩
  .grind [rkP,Hb]
  simp only[go_sem,simprocAttr];grind [az,rkP,Hb,aH]
theorem yz (s:List UInt8):ag prog W0 325 [.str s] (.tup [.str (kF s),.str (jA s)]):=by
 refine an [2,3] [] func325 rfl rfl ntmps325 rfl rfl (.tup (by intro x hx;simp at hx;rcases hx with rfl|rfl<;>exact .str _)) λhs σ=>?_
 have hsl:s.length<=maxLen:=dw (hs _ (by simp));simp only[go_sem,simprocAttr];refine ae.at [0] (.of (by kernel_rfl)) (λA=>∃ i:Nat,A.env 4= .int .i64 i/\A.st=σ/\i=bU s) ?_ λB ⟨i,h4,hst,hi⟩=>?_
 .refine ae.upto [0] (.of (by kernel_rfl)) s.length (λi A=>A.env 4= .int .i64 i/\A.st=σ/\ ∀c∈s.take i,bk c=true) 0 (acP _) ?_ λi B hi ⟨h4,hst,hI⟩=>?_
  .simp only[go_sem,simprocAttr];simp
  simp only[go_sem,simprocAttr,h4,hst];refine aB.fnG (λ_=>rr _) ?_;simp only[go_sem,simprocAttr,h4,hst];refine⟨λh=>?_,λh=>⟨i,rfl,?_⟩⟩
  .obtain⟨c,hc,hd⟩:=LK.1 h;have hlt:=(acS.1 hc).1;refine⟨hlt,ah hlt hsl,λd hdm=>?_⟩;rw[ai hc]at hdm;grind
  grind [GF]
 simp only[go_sem,simprocAttr,h4];subst hi;have hle:=qZ s;refine⟨.of (by kernel_rfl),⟨acP _,hle⟩,?_⟩;refine aB.fn (Cx _ 48 (by decide)) ?_;simp only[go_sem,simprocAttr,h4,hst];refine⟨hle,?_⟩;have key: ∀s:List UInt8,s.takeWhile bk=s.take (bU s)/\s.dropWhile bk=s.drop (bU s):=λs=>by
  induction s with
  |nil=>simp_all
  |cons c r ih=>
   grind [bU,adl,acZ]
 rw[kF,jA,(key s).1,(key s).2];exact .refl _
abbrev lL (x y:List UInt8):Option bK:=some (.cells 329 [.agg 329 [.str x,.str y]])
theorem L5 (σ:ab)(id:Nat)(a b:List UInt8)(hid:σ[id]?=some (lL a b))(hal:a.length<=maxLen)(hbl:b.length<=maxLen):
  aP prog W0 283 [.ptr 329 id 0 []] σ λr σ'=>r= .int .i64 (cw a b)/\ ∃x y,σ'=σ.set id (lL x y)/\(cw a b=0->x=bO a/\y=bO b):=by
 have hidl:id<σ.length:=(acS.1 hid).1;refine bY [2] [] func283 rfl rfl ntmps283 rfl rfl λhs=>?_
 simp only[go_sem,simprocAttr];refine ae.cE [0] (.of (by kernel_rfl)) (λk A=>∃ x y,A.st=σ.set id (lL x y)/\k=x.length+y.length/\cw x y=cw a b/\bO x=bO a/\bO y=bO b/\x.length<=maxLen/\y.length<=maxLen) (a.length+b.length) ⟨a,b,?_,rfl,rfl,rfl,rfl,hal,hbl⟩ λk B ⟨x,y,hst,hk,hI,hx,hy,hxl,hyl⟩=>?_
 .simp only[go_sem,simprocAttr];grind [fO]
 simp only[go_sem,simprocAttr,hst,cV hidl];refine⟨.of (by kernel_rfl),aB.fn (GL x) ?_⟩;simp only[go_sem,simprocAttr,hst,cV hidl];refine aB.fn (GL y) ?_;simp only[go_sem,simprocAttr,hst,cV hidl];refine⟨λh=>aj.fn (Ly _ _) ?_,λh=>⟨λh0=>bt.ret ?_,λh0=>?_⟩⟩
 .simp only[go_sem,simprocAttr];refine bt.ret ?_;simp only[go_sem,simprocAttr,hst];have hne:rk x≠rk y:=λe=>h ((EO x y).2 e)
  refine⟨_,.refl _,by simp,by grind [dU,F8],x,y,rfl,λh0=>?_⟩;grind [dU,qt]
 .simp only[go_sem,simprocAttr,hst];have hx0:=(vD x).1 h0;have hy0:rk y=0:=by grind [vD]
  refine⟨_,.refl _,by simp,by grind [lk],x,y,rfl,λ_=>⟨by grind [Bg],by grind [Bg]⟩⟩
 .have hx0:rk x≠0:=λe=>h0 ((vD x).2 e)
  have hxy:rk x=rk y:=(EO x y).1 h;have hy0:rk y≠0:=by omega
  obtain⟨c,r,rfl,hc⟩:=BU hx0;obtain⟨d,r',rfl,hd⟩:=BU hy0;simp only[go_sem,simprocAttr,cV hidl,eh hidl];refine⟨.of (by kernel_rfl),.here (r.length+r'.length) (by grind) ⟨r,r',?_⟩⟩;simp only[go_sem,simprocAttr];grind [gR,ES]
theorem Eo (σ:ab)(id:Nat)(a b:List UInt8)(hid:σ[id]?=some (lL a b)):
  aP prog W0 284 [.ptr 329 id 0 []] σ λr σ'=>r= .int .i64 (HI a b)/\σ'=σ.set id (lL (jA a) (jA b)):=by
 have hidl:id<σ.length:=(acS.1 hid).1;refine bY [2] [] func284 rfl rfl ntmps284 rfl rfl λhs=>?_
 simp only[go_sem,simprocAttr,ak hid];refine aj.fn (yz a) ?_;simp only[go_sem,simprocAttr,ak hid];refine aj.fn (yz b) ?_;simp only[go_sem,simprocAttr,ak hid,aC hid,cV hidl,eh hidl];refine⟨λh=>aj.fn (Ly _ _) ?_,λh=>aj.fn (AN _ _) ?_⟩
 .simp only[go_sem,simprocAttr];refine bt.ret ?_;simp only[go_sem,simprocAttr];exact⟨_,.refl _,by simp,by grind [HI]⟩
 .simp only[go_sem,simprocAttr];refine bt.ret ?_;simp only[go_sem,simprocAttr];exact⟨_,.refl _,by simp,by grind [HI]⟩
theorem Ah (a b:List UInt8):ag prog W0 249 [.str a,.str b] (.int .i64 (br a b)):=by
 refine an [4] [] func249 rfl rfl ntmps249 rfl rfl (.int _ _) λhs σ=>?_
 have hal:a.length<=maxLen:=dw (hs (.str a) (by simp));have hbl:b.length<=maxLen:=dw (hs (.str b) (by simp));simp only[go_sem,simprocAttr];refine ae.cE [5] (.of (by kernel_rfl)) (λk A=>∃ x y,A.st=σ++[lL x y]/\k=x.length+y.length/\br x y=br a b/\x.length<=maxLen/\y.length<=maxLen) (a.length+b.length) ⟨a,b,?_,rfl,rfl,hal,hbl⟩ λk B ⟨x,y,hst,hk,hI,hxl,hyl⟩=>?_
 .simp only[go_sem,simprocAttr]
 simp only[go_sem,simprocAttr,hst];refine⟨λh=>?_,λh=>?_⟩
 case refine_2=>
  grind [az,br]
 have hne: ¬(x=[]/\y=[]):=λ⟨e,e'⟩=>by simp_all
 have hid:(σ++[lL x y])[σ.length]?=some (lL x y):=by simp
 refine aj.goes (by simp only[go_sem,simprocAttr,hst]) (L5 _ σ.length x y hid hxl hyl) λr σ' ⟨hr,x',y',hσ,hz⟩=>?_
 subst hr hσ;simp only[go_sem,simprocAttr];refine⟨λh1=>az ?_,λh1=>?_⟩
 .grind [p7]
 obtain⟨rfl,rfl⟩:=hz h1;have hid:(σ++[lL (bO x) (bO y)])[σ.length]?=some (lL (bO x) (bO y)):=by simp
 refine aj.goes (by simp only[go_sem,simprocAttr]) (Eo _ σ.length _ _ hid) λr σ' ⟨hr,hσ⟩=>?_
 subst hr hσ;simp only[go_sem,simprocAttr];have l1:=Ca (bO x);have l2:=Ca (bO y);have l3:=fT (p:=λc=>!bk c) x;have l4:=fT (p:=λc=>!bk c) y;refine⟨λh2=>az ?_,λh2=>.here ((jA (bO x)).length+(jA (bO y)).length) (by simp_all[Fv]) ⟨jA (bO x),jA (bO y),?_⟩⟩
 .grind [p7]
 .simp only[go_sem,simprocAttr];grind [bO,p7]
theorem Q1 (beside s:List UInt8)(hbs: ∀c∈beside,c.toNat<=126):ag prog W0 229 [.str s,.str beside] (.bool (ofV beside s)):=by
 refine an [4] [] func229 rfl rfl ntmps229 rfl rfl (.bool _) λhs σ=>?_
 simp only[go_sem,simprocAttr];refine ae.cE [1,8] (.of (by kernel_rfl)) (λk A=>∃ pos,A.st=σ++[some (.iter s pos)]/\k=s.length-pos/\pos<=s.length/\ofV beside (s.take pos)=true) s.length ⟨0,?_⟩ λk B ⟨pos,hst,hk,hp,hI⟩=>?_
 .simp only[go_sem,simprocAttr];simp[ofV]
 simp only[go_sem,simprocAttr,hst];refine⟨λhlt=>?_,λhge=>?_⟩
 .obtain⟨c,hc⟩:=get_some hlt;have bad:(bk c||eB c||beside.contains c)=false->ofV beside s=false:=λhd=>by
   grind [ofV]
  rcases adr c.toNat 128 with h8|h8
  .rw[nQ hc h8];have hcv:=PJ c;have hce:=Ea h8;simp only[go_sem,simprocAttr,hcv];refine aB.fnG (λ_=>rr c) ?_;simp only[go_sem,simprocAttr,hcv];refine aB.fnG (λ_=>ya c) ?_;simp only[go_sem,simprocAttr,hce];refine aB.fnG (λ_=>A9 beside c) ?_;simp only[go_sem,simprocAttr];refine⟨λhb=>aq ?_,λhb=>.here (s.length-(pos+1)) (by omega) ⟨pos+1,?_⟩⟩
   .grind [bk,eB,jO]
   .simp only[go_sem,simprocAttr];refine⟨by omega,oJ hI hc ?_⟩;grind
  .have:=sn hc h8;have hd:decide ((126:Int)<((iI s pos).1:Int))=true:=decide_eq_true (by omega);simp only[go_sem,simprocAttr,hd];refine aB.fnG (λh=>by simp at h) (r:=.bool false) ?_;simp only[go_sem,simprocAttr];refine aB.fnG (λh=>by simp at h) (r:=.bool false) ?_;simp only[go_sem,simprocAttr];refine aB.fnG (λh=>by simp at h) (r:=.bool false) ?_;simp only[go_sem,simprocAttr];grind [aq,bk,eB,jO]
 grind [aq]
theorem kO (s:List UInt8):ag prog W0 184 [.str s] (gl (fC s)):=by
 refine an [2,3,4,5] [] func184 rfl rfl ntmps184 rfl rfl (El _) λhs σ=>?_
 have hsl:s.length<=maxLen:=dw (hs _ (by simp));have none_end:fC s=none->dc (AV.tup [.str [],.str [],.str [],.int .i64 3]) (gl (fC s)):=λe=>by rw[e];exact .refl _
 simp only[go_sem,simprocAttr];refine⟨λh=>none_end ?_,λh=>?_⟩
 .grind [fC]
 have hlen: ¬(s.length=0\/48<s.length):=by
  grind
 refine aj.fn (T8 s 58) ?_;simp only[go_sem,simprocAttr,vX];have hv: ∀e t:List UInt8,(e,t)=(if 0<=bD 58 s then(s.take (bD 58 s).toNat,s.drop ((bD 58 s).toNat+1))else([48],s))->fC s=(match uG t with
   |none=>none
   |some (u,r)=>if (decide (1<=e.length)&&decide (e.length<=9)&&e.all bk)&&ofV [43,46,126] r&&iw u&&ofV [43,46,126,45,58] u then some (e,u,r)else none):=λe t he=>by
  grind [O2]
 refine cj.at [4] (by kernel_rfl) (λA=>∃ e t,A.env 2= .str e/\A.env 6= .str t/\A.st=σ/\t.length<=s.length/\(e,t)=(if 0<=bD 58 s then(s.take (bD 58 s).toNat,s.drop ((bD 58 s).toNat+1))else([48],s))) (λhf=>?_) (λhf=>?_) λB ⟨e,t,h2,h6,hst,htl,het⟩=>?_
 .have hf:0<=bD 58 s:=by simp_all
  simp only[go_sem,simprocAttr];grind [OG,Of]
 .have hf: ¬0<=bD 58 s:=by simp_all
  simp only[go_sem,simprocAttr];grind
 have hv:=hv e t het;simp only[go_sem,simprocAttr,h6];refine aj.fn (sE t 45) ?_;simp only[go_sem,simprocAttr];refine cj.at [] (by kernel_rfl) (λA=>∃ u r,uG t=some (u,r)/\A.env 2= .str e/\A.env 3= .str u/\A.env 4= .str r/\A.st=σ) (λhf=>?_) (λhf=>?_) λB ⟨u,r,hrv,h2,h3,h4,hst⟩=>?_
 .obtain⟨i,hi,hgi,hlt⟩:=(rN 45 t).resolve_left (λe=>by simp_all);rw[hi];have hw:IntKind.i64.wrap ((i:Int)+1)=((i+1:Nat):Int):=j9 hlt (by omega);have hrv:uG t=if t.drop (i+1)=[]then none else some (t.take i,t.drop (i+1)):=by
   simp_all[uG]
  simp only[go_sem,simprocAttr,hw,h2,h6,hst];refine⟨.of (by kernel_rfl),by omega,by omega,λhb=>none_end (by simp_all),λhb=>⟨t.take i,t.drop (i+1),?_⟩⟩;simp_all
 .have hf': ¬(0<=lastOf 45 t):=by simp_all
  simp only[go_sem,simprocAttr,h2,hst];grind [uG]
 rw[hrv]at hv;simp only at hv;simp only[go_sem,simprocAttr,h2];refine aj.fn (Fo e) ?_;simp only[go_sem,simprocAttr,h4,hst];refine aB.fnG (λ_=>Q1 [43,46,126] r (by decide)) ?_;simp only[go_sem,simprocAttr,h3,hst];have fin: ∀b:Bool,b=(!((decide (1<=e.length)&&decide (e.length<=9)&&e.all bk)&&ofV [43,46,126] r&&iw u&&ofV [43,46,126,45,58] u))->(b=true->fC s=none)/\(b=false->fC s=some (e,u,r)):=λb hb=>by
  grind
 cases u with
 |nil=>
  simp only[go_sem,simprocAttr];refine aB.fnG (λh=>by simp at h) (r:=.bool false) ?_;simp only[go_sem,simprocAttr,h3,hst];refine aB.fnG (λh=>by simp at h) (r:=.bool false) ?_;simp only[go_sem,simprocAttr,h2,h3,h4,hst];grind [iw]
 |cons c u'=>
  simp only[go_sem,simprocAttr];refine aB.fnG (λ_=>rr c) ?_;simp only[go_sem,simprocAttr,h3,hst];refine aB.fnG (λ_=>Q1 [43,46,126,45,58] (c::u') (by decide)) ?_;simp only[go_sem,simprocAttr,h2,h3,h4,hst];refine⟨λh=>none_end ((fin _ ?_).1 h),λh=>?_⟩
  .grind [iw]
  .rw[(fin _ (by
    grind [iw])).2 h]
   exact .refl _
def qY (a b:List UInt8):AV:=.tup [.int .i64 (cd a b),.bool (bP a&&bP b)]
theorem H3 (a b:List UInt8):aU 0 (qY a b):=by
 refine .tup λx hx=>?_
 simp at hx;rcases hx with rfl|rfl
 .exact .int _ _
 .exact .bool _
theorem p9 (a b:List UInt8):ag prog W0 205 [.str a,.str b] (qY a b):=by
 refine an [4,5] [] func205 rfl rfl ntmps205 rfl rfl (H3 _ _) λhs σ=>?_
 simp only[go_sem,simprocAttr];refine aj.fn (kO a) ?_;cases h:fC a with
 |none=>
  simp only[go_sem,simprocAttr,gl];refine aj.fn (kO b) ?_;cases h':fC b with
  |none=>simp only[go_sem,simprocAttr,gl];simp only[qY,cd,bP,h,h'];exact .refl _
  |some v=>obtain⟨f,v,t⟩:=v;simp only[go_sem,simprocAttr,gl];simp only[qY,cd,bP,h,h'];exact .refl _
 |some v=>
  obtain⟨e,u,r⟩:=v;simp only[go_sem,simprocAttr,gl];refine aj.fn (kO b) ?_;cases h':fC b with
  |none=>simp only[go_sem,simprocAttr,gl];simp only[qY,cd,bP,h,h'];exact .refl _
  |some v=>
   obtain⟨f,v,t⟩:=v;simp only[go_sem,simprocAttr,gl];refine aj.fn (Ah e f) ?_;simp only[go_sem,simprocAttr];refine aj.fn (Ah u v) ?_;simp only[go_sem,simprocAttr];refine aj.fn (Ah r t) ?_;simp only[go_sem,simprocAttr];refine⟨by decide,aj.fn ((KB [br e f,br u v,br r t]).cb (.cons (.lit _ _) .nil)) ?_⟩;simp only[go_sem,simprocAttr]
   have:orL [br e f,br u v,br r t]=cd a b:=by
    grind [cd,orL]
   rw[this,qY];simp only[bP,h,h'];exact .refl _
theorem ni (a b:List UInt8):ag prog W0 147 [.str a,.str b] (.bool (bq a b)):=by
 refine an [4] [] func147 rfl rfl ntmps147 rfl rfl (.bool _) λhs σ=>?_
 simp only[go_sem,simprocAttr];refine aj.fn (p9 a b) ?_;simp only[go_sem,simprocAttr,qY];simp[aq,bq]
theorem DI (rel:Int)(a b:List UInt8):ag prog W0 188 [.int .i64 rel,.str a,.str b] (.bool (qk rel a b)):=by
 refine an [6] [] func188 rfl rfl ntmps188 rfl rfl (.bool _) λhs σ=>?_
 simp only[go_sem,simprocAttr];refine⟨λh0=>aj.fn (kO a) ?_,λh0=>aj.fn (p9 a b) ?_⟩
 .cases h:fC a with
  |none=>simp only[go_sem,simprocAttr,gl];grind [aq,qk,bP]
  |some v=>obtain⟨e,u,r⟩:=v;simp only[go_sem,simprocAttr,gl];grind [aq,qk,bP]
 simp only[go_sem,simprocAttr,qY];grind [aq,qk]
theorem AA (s:List UInt8):ag prog W0 118 [.str s] (.bool (eD s)):=by
 refine an [2] [] func118 rfl rfl ntmps118 rfl rfl (.bool _) λhs σ=>?_
 have hsl:s.length<=maxLen:=dw (hs _ (by simp));simp only[go_sem,simprocAttr];refine⟨λh=>aq ?_,λh=>?_⟩
 .grind [eD]
 have hlen:(decide (2<=s.length)&&decide (s.length<=24))=true:=by
  grind
 refine ae.cE [15] (.of (by kernel_rfl)) (λk A=>∃ pos,A.st=σ++[some (.iter s pos)]/\k=s.length-pos/\pos<=s.length/\ ∀j c,j<pos->s[j]?=some c->mN j c=true) s.length ⟨0,?_⟩ λk B ⟨pos,hst,hk,hp,hI⟩=>?_
 .simp only[go_sem,simprocAttr];simp
 simp only[go_sem,simprocAttr,hst];refine⟨λhlt=>?_,λhge=>?_⟩
 .obtain⟨c,hc⟩:=get_some hlt;have bad:mN pos c=false->eD s=false:=λhd=>by
   grind [eD,pL]
  rcases adr c.toNat 128 with h8|h8
  .rw[nQ hc h8];simp only[go_sem,simprocAttr];refine⟨λhb=>aq ?_,λhb=>.here (s.length-(pos+1)) (by omega) ⟨pos+1,?_⟩⟩
   .grind [mN,jO,bk]
   .simp only[go_sem,simprocAttr];refine⟨by omega,λj d hj hd=>?_⟩;rcases ac1.1 hj with hj|rfl
    .simp_all
    .have e:d=c:=by simp_all
     subst e
     revert hb
     simp only[mN,jO,bk];simp;omega
  .have:=sn hc h8;refine⟨λhb=>aq (bad ?_).symm,λhb=>?_⟩
   .grind [mN,jO,bk]
   .simp at hb;omega
 grind [lD,aq,eD]
theorem w8 (a:Atom):ag prog W0 187 [aW a] (.bool (cu a)):=by
 refine an [2] [1] func187 rfl rfl ntmps187 rfl rfl (.bool _) λhs σ=>?_
 simp only[go_sem,simprocAttr,aW];refine aj.fn (AA a.name) ?_;simp only[go_sem,simprocAttr];have low:(!eD a.name||decide (a.rel<0)||decide (5<a.rel))=true->cu a=false:=λh=>by
  grind [cu]
 have high:(!eD a.name||decide (a.rel<0)||decide (5<a.rel))=false->cu a=if a.rel=0 then a.ver==[]else bP a.ver:=λh=>by
  grind [cu]
 refine⟨λh=>aq (low h).symm,λh=>⟨λh0=>aq (by simp_all),λh0=>aj.fn (kO a.ver) ?_⟩⟩;have hm:=high h;rw[if_neg h0]at hm;cases h:fC a.ver with
 |none=>simp only[go_sem,simprocAttr,gl];grind [aq,bP]
 |some v=>obtain⟨e,u,r⟩:=v;simp only[go_sem,simprocAttr,gl];grind [aq,bP]
end Go.Proofs.Tryz
end
section
namespace Go.Av
structure aL (σ st:ab)(v:AV)(e:TypeId)(xs:List AV):Prop where
 bld:Bld st v e xs
 ext:Ext σ st
 tok: ∀t,fA v=some t->σ.length<=t
theorem aL.nil {σ st:ab}(h:Ext σ st)(e:TypeId):aL σ st .ar e []:=⟨.inl ⟨rfl,rfl⟩,h,λt h=>by cases h⟩
theorem aL.app {σ st st':ab}{v v':AV}{e:TypeId}{xs zs:List AV}(h:aL σ st v e xs)(ha:App st v e zs v' st'):aL σ st' v' e zs:=by
 have hl:=h.ext.le;refine⟨ha.bld,?_,λt ht=>?_⟩
 .have hl':=ha.len;refine ads λi=>?_
  rw[ado];by_cases hi:i<σ.length
  .rw[if_pos hi,ha.old i (by omega) (λe=>by have:=h.tok i e;omega)];have e:=congrArg (·[i]?) h.ext;grind
  grind
 .rcases ha.tok with e|⟨u,e,hu⟩
  .exact h.tok t (by simp_all)
  grind
theorem aL.more {σ st:ab}{v:AV}{e:TypeId}{xs:List AV}(h:aL σ st v e xs)(l:ab):aL σ (st++l) v e xs:=by
 refine⟨?_,h.ext.app l,h.tok⟩;rcases h.bld with h1|h1|⟨t,h1,h2⟩
 .exact .inl h1
 .exact .inr (.inl h1)
 .exact .inr (.inr ⟨t,h1,by grind⟩)
theorem aL.cb {σ st:ab}{v:AV}{e:TypeId}{xs:List AV}(h:aL σ st v e xs):dc v (.sl e xs):=by
 rcases h.bld with⟨rfl,rfl⟩|rfl|⟨t,rfl,_⟩
 .exact .ar _
 .exact .lit _ _
 .exact .own _ _ _
theorem Ext.eq {σ st:ab}(h:Ext σ st):st=σ++st.drop σ.length:=by
 have:=adi σ.length st;rw[h]at this;simp_all
theorem Ext.trans {σ st st':ab}(h:Ext σ st)(h':Ext st st'):Ext σ st':=by
 rw[h'.eq];exact h.app _
theorem aL.on {σ st st':ab}{v:AV}{e:TypeId}{xs:List AV}(h:aL σ st v e xs)(h':Ext st st'):aL σ st' v e xs:=by
 rw[h'.eq];exact h.more _
theorem aL.len {σ st:ab}{v:AV}{e:TypeId}{xs:List AV}(h:aL σ st v e xs):oh v= .int .i64 xs.length:=by
 rcases h.bld with⟨rfl,rfl⟩|rfl|⟨t,rfl,_⟩<;>rfl
theorem aL.fR {σ st:ab}{v:AV}{e:TypeId}{xs:List AV}(h:aL σ st v e xs)(P:Program)(t:TypeId):fR P t v=((elT P t).isSome=true):=by
 rcases h.bld with⟨rfl,rfl⟩|rfl|⟨t,rfl,_⟩<;>rfl
theorem aL.notM {σ st:ab}{v:AV}{e:TypeId}{xs:List AV}(h:aL σ st v e xs):dd v:=by
 rcases h.bld with⟨rfl,rfl⟩|rfl|⟨t,rfl,_⟩<;>trivial
theorem aL.ok {σ st:ab}{v:AV}{e:TypeId}{xs:List AV}(h:aL σ st v e xs)(g:Option Bool):okM g v=True:=cq h.notM
theorem aL.un {σ st:ab}{v:AV}{e:TypeId}{xs:List AV}(h:aL σ st v e xs):unm v=v:=cY h.notM
attribute [go_sem] List.range'_succ List.range'_zero
theorem Sub.Qw {α:Type}{f g:α->AV}{e:TypeId}(l:List α)(h: ∀a∈l,Sub (f a) (g a)):Sub (.sl e (l.map f)) (.sl e (l.map g)):=by
 refine .sls (by simp) λi x y hx hy=>?_
 grind
theorem eF.sl (st:ab)(e:TypeId)(ys:List AV):eF st (.sl e ys) e ys:=.inl rfl
theorem eF.lit (st:ab)(e:TypeId)(ys:List AV):eF st (.lit e ys) e ys:=.inl rfl
theorem ae.ats {P:Program}{W0:World}{n:Nat}{fz:List Nat}{A:aa}{c:Code}{id:Nat}{Q:Exit->aa->Prop}(ks:List Nat)(hks:Kept fz c .mk ks)(R:aa->Prop)(h:ae P W0 n fz c .mk (er id (cr R Q)) .mk A)(hR: ∀B,R B->Q .normal (keep ks A B)):ae P W0 n fz c .mk (er id Q) .mk A:=by
 have e:er id (cr (Q .normal) Q)=er id Q:=by
  funext e A;cases e<;>rfl
 grind [ae.at]
def cR (l:List Clause):Int:=
 if 12<l.length\/l.any (λc=>decide (6<c.length))=true then 12 else if l.any (λc=>decide (c.length=0)||c.any λa=>!cu a)=true then 3 else 0
def single (l:List Atom):List Clause:=l.map λa=>[a]
def bT (p:iR):Atom:=⟨p.name,if p.ver=[]then 0 else 3,p.ver⟩
def aS (p:Pkg):Int:=if (!eD p.name|| !bP p.ver)=true then 3 else orL [cR p.pre,cR p.dep,cR p.rcm,cR (single p.con),cR (single p.brk),cR (single (p.eX.map bT))]
def dr :List Pkg->List (List UInt8)->List (List UInt8)
 |[],acc=>acc
 |p::r,acc=>dr r (if acc.any (λx=>p.name==x)then acc else acc++[p.name])
def dy (p q:Pkg):Bool:=q.name==p.name&&bq q.ver p.ver
def pC :List Pkg->List Pkg->Bool
 |_,[]=>false
 |bef,p::r=>bef.any (dy p)||pC (bef++[p]) r
def aZ (l:List Pkg):Int:=
 if 24<l.length then 12 else if orL (l.map aS)≠0 then orL (l.map aS)else if pC [] l=true then 4 else if 10<(dr l []).length then 12 else 0
end Go.Av
end
section
namespace Go.Proofs.Tryz
open Go Go.Av
set_option maxRecDepth 10000
variable {W0 :World}
def lE (a:Atom):AV:=.lit 76 [aW a]
theorem dd.atom (a:Atom):dd (aW a):=trivial
theorem dd.atoms (l:List Atom):dd (aF l):=trivial
@[go_sem] theorem Qa (g:Option Bool)(l:List Atom):okM g (aF l)=True:=eq_true trivial
@[go_sem] theorem Qi (l:List Atom):unm (aF l)=aF l:=rfl
@[go_sem] theorem MZ (P:Program)(t:TypeId)(l:List Atom):bb P t (aF l)=cg P t:=rfl
@[go_sem] theorem M1 (g:Option Bool)(l:List Clause):okM g (aA l)=True:=eq_true trivial
@[go_sem] theorem M5 (l:List Clause):unm (aA l)=aA l:=rfl
@[go_sem] theorem Jd (P:Program)(t:TypeId)(l:List Clause):bb P t (aA l)=cg P t:=rfl
@[go_sem] theorem Rk (g:Option Bool)(l:List iR):okM g (ct l)=True:=eq_true trivial
@[go_sem] theorem Ql (l:List iR):unm (ct l)=ct l:=rfl
@[go_sem] theorem MX (P:Program)(t:TypeId)(l:List iR):bb P t (ct l)=cg P t:=rfl
@[go_sem] theorem Tr (g:Option Bool)(l:List Pkg):okM g (aM l)=True:=eq_true trivial
@[go_sem] theorem T3 (l:List Pkg):unm (aM l)=aM l:=rfl
@[go_sem] theorem P0 (P:Program)(t:TypeId)(l:List Pkg):bb P t (aM l)=cg P t:=rfl
theorem ky (l:List Atom):Sub (.sl 77 (l.map lE)) (aA (single l)):=by
 rw[aA,single,adt];exact .Qw l λa _=>.lit _ _
theorem ji {α:Type}{f:α->AV}{e:TypeId}(h: ∀a,aU 0 (f a))(l:List α):aU 0 (.sl e (l.map f)):=.sl λx hx=>by
 grind
theorem ry (a:Atom):aU 0 (aW a):=.agg λx hx=>by
 simp at hx;rcases hx with rfl|rfl|rfl
 .exact .str _
 .exact .int _ _
 .exact .str _
theorem pc (l:List Atom):aU 0 (aF l):=ji ry l
theorem ec (l:List Clause):aU 0 (aA l):=ji pc l
theorem wE (a:iR):aU 0 (dA a):=.agg λx hx=>by
 simp at hx;rcases hx with rfl|rfl<;>exact .str _
theorem HD (l:List iR):aU 0 (ct l):=ji wE l
theorem rD (p:Pkg):aU 0 (ay p):=.agg λx hx=>by
 simp at hx;rcases hx with rfl|rfl|rfl|rfl|rfl|rfl|rfl|rfl|rfl
 .exact .str _
 .exact .str _
 .exact ec _
 .exact ec _
 .exact ec _
 .exact pc _
 .exact pc _
 .exact HD _
 .exact .bool _
theorem kf (l:List Pkg):aU 0 (aM l):=ji rD l
theorem vf (l:List Atom)(hl:l.length<=1048576):ag prog W0 196 [aF l] (aA (single l)):=by
 refine an [2] [5] func196 rfl rfl ntmps196 rfl rfl (ec _) λhs σ=>?_
 simp only[go_sem,simprocAttr,aF];refine ae.at [6,7] (.of (by kernel_rfl)) (λA=>∃ v,A.env 3=v/\aL σ A.st v 77 (l.map lE)) ?_ λB ⟨v,h3,hb⟩=>?_
 .refine ae.upto [6,7] (.of (by kernel_rfl)) l.length (λi A=>∃ v,A.env 3=v/\A.env 8= .int .i64 i/\aL σ A.st v 77 ((l.take i).map lE)) 0 (acP _) ?_ λi B hi ⟨v,h3,h8,hb⟩=>?_
  .simp only[go_sem,simprocAttr];exact⟨_,rfl,aL.nil (.refl _) _⟩
  simp only[go_sem,simprocAttr,h3,h8,hb.ok,hb.un,acO];refine⟨λhc=>⟨hc,?_⟩,λhc=>?_⟩
  .obtain⟨a,ha⟩:=get_some hc;simp only[aw ha];simp only[go_sem,simprocAttr,aW,h3,h8,hb.ok,hb.un];refine bA.own 1048576 (by kernel_rfl) (hb.more _).bld (.lit _ _ _) (by simp;omega) λv' σ' ha'=>?_
   have hb':=(hb.more _).app ha';simp only[go_sem,simprocAttr,h3,h8,hb.ok,hb.un,hb'.ok,hb'.un];refine⟨hc,_,rfl,ah hc (by rw[au];omega),?_⟩;rw[ai ha,ac9];exact hb'
  .rw[acQ hc]at hb;exact⟨_,rfl,hb⟩
 simp only[go_sem,simprocAttr,h3,hb.ok,hb.un];exact⟨hb.cb.trans (.sub (ky l)),hb.ext⟩
theorem p0 (l:List Atom)(hl:l.length<=1048576):ag prog W0 103 [aF l] (aA (single l)):=by
 refine an [2] [5] func103 rfl rfl ntmps103 rfl rfl (ec _) λhs σ=>?_
 simp only[go_sem,simprocAttr,aF];refine ae.at [6,7] (.of (by kernel_rfl)) (λA=>∃ v,A.env 3=v/\aL σ A.st v 77 (l.map lE)) ?_ λB ⟨v,h3,hb⟩=>?_
 .refine ae.upto [6,7] (.of (by kernel_rfl)) l.length (λi A=>∃ v,A.env 3=v/\A.env 8= .int .i64 i/\aL σ A.st v 77 ((l.take i).map lE)) 0 (acP _) ?_ λi B hi ⟨v,h3,h8,hb⟩=>?_
  .simp only[go_sem,simprocAttr];exact⟨_,rfl,aL.nil (.refl _) _⟩
  simp only[go_sem,simprocAttr,h3,h8,hb.ok,hb.un,acO];refine⟨λhc=>⟨hc,?_⟩,λhc=>?_⟩
  .obtain⟨a,ha⟩:=get_some hc;simp only[aw ha];simp only[go_sem,simprocAttr,aW,h3,h8,hb.ok,hb.un];refine bA.own 1048576 (by kernel_rfl) (hb.more _).bld (.lit _ _ _) (by simp;omega) λv' σ' ha'=>?_
   have hb':=(hb.more _).app ha';simp only[go_sem,simprocAttr,h3,h8,hb.ok,hb.un,hb'.ok,hb'.un];refine⟨hc,_,rfl,ah hc (by rw[au];omega),?_⟩;rw[ai ha,ac9];exact hb'
  .rw[acQ hc]at hb;exact⟨_,rfl,hb⟩
 simp only[go_sem,simprocAttr,h3,hb.ok,hb.un];exact⟨hb.cb.trans (.sub (ky l)),hb.ext⟩
theorem Hl (l:List Atom):Sub (.sl 76 (l.map aW)) (aF l):=.refl _
theorem BN (l:List iR)(hl:l.length<=1048576):ag prog W0 197 [ct l] (aA (single (l.map bT))):=by
 refine an [2] [5] func197 rfl rfl ntmps197 rfl rfl (ec _) λhs σ=>?_
 simp only[go_sem,simprocAttr,ct];refine ae.at [7,8] (.of (by kernel_rfl)) (λA=>∃ v,A.env 3=v/\aL σ A.st v 77 (l.map λp=>lE (bT p))) ?_ λB ⟨v,h3,hb⟩=>?_
 .refine ae.upto [7,8] (.of (by kernel_rfl)) l.length (λi A=>∃ v,A.env 3=v/\A.env 9= .int .i64 i/\aL σ A.st v 77 ((l.take i).map λp=>lE (bT p))) 0 (acP _) ?_ λi B hi ⟨v,h3,h8,hb⟩=>?_
  .simp only[go_sem,simprocAttr];exact⟨_,rfl,aL.nil (.refl _) _⟩
  simp only[go_sem,simprocAttr,h3,h8,hb.ok,hb.un,acO];refine⟨λhc=>⟨hc,?_⟩,λhc=>?_⟩
  .obtain⟨a,ha⟩:=get_some hc;simp only[aw ha];simp only[go_sem,simprocAttr,dA,h3,h8,hb.ok,hb.un];refine cj.at [3,6,7,8,9] (by kernel_rfl) (λA=>A.st=B.st++[none,some (.cells 76 [aW (bT a)])]) (λh=>?_) (λh=>?_) λA hst=>?_
   .simp only[go_sem,simprocAttr,aW,bT];simp only[adf,beq_eq_false_iff_ne]at h;rw[if_neg h]
   .simp only[go_sem,simprocAttr,aW,bT];simp only[adp,beq_iff_eq]at h;rw[if_pos h]
   have hb2:aL σ A.st v 77 ((l.take i).map λp=>lE (bT p)):=by rw[hst];exact hb.more _
   simp only[go_sem,simprocAttr,h3,h8,hst,hb.ok,hb.un,aW];refine bA.own 1048576 (by kernel_rfl) hb2.bld (.lit _ _ _) (by simp;omega) λv' σ' ha'=>?_
   have hb':=hb2.app ha';simp only[go_sem,simprocAttr,h3,h8,hb.ok,hb.un,hb'.ok,hb'.un];refine⟨hc,_,rfl,ah hc (by rw[au];omega),?_⟩;rw[ai ha,ac9];exact hb'
  .rw[acQ hc]at hb;exact⟨_,rfl,hb⟩
 simp only[go_sem,simprocAttr,h3,hb.ok,hb.un];refine⟨hb.cb.trans (.sub ?_),hb.ext⟩;have:=ky (l.map bT);rw[adt]at this;exact this
theorem Ds (l:List iR)(hl:l.length<=1048576):ag prog W0 105 [ct l] (aF (l.map bT)):=by
 refine an [2] [5] func105 rfl rfl ntmps105 rfl rfl (pc _) λhs σ=>?_
 simp only[go_sem,simprocAttr,ct];refine ae.at [7,8] (.of (by kernel_rfl)) (λA=>∃ v,A.env 3=v/\aL σ A.st v 76 (l.map λp=>aW (bT p))) ?_ λB ⟨v,h3,hb⟩=>?_
 .refine ae.upto [7,8] (.of (by kernel_rfl)) l.length (λi A=>∃ v,A.env 3=v/\A.env 9= .int .i64 i/\aL σ A.st v 76 ((l.take i).map λp=>aW (bT p))) 0 (acP _) ?_ λi B hi ⟨v,h3,h8,hb⟩=>?_
  .simp only[go_sem,simprocAttr];exact⟨_,rfl,aL.nil (.refl _) _⟩
  simp only[go_sem,simprocAttr,h3,h8,hb.ok,hb.un,acO];refine⟨λhc=>⟨hc,?_⟩,λhc=>?_⟩
  .obtain⟨a,ha⟩:=get_some hc;simp only[aw ha];simp only[go_sem,simprocAttr,dA,h3,h8,hb.ok,hb.un];refine cj.at [3,6,7,8,9] (by kernel_rfl) (λA=>A.st=B.st++[none,some (.cells 76 [aW (bT a)])]) (λh=>?_) (λh=>?_) λA hst=>?_
   .simp only[go_sem,simprocAttr,aW,bT];simp only[adf,beq_eq_false_iff_ne]at h;rw[if_neg h]
   .simp only[go_sem,simprocAttr,aW,bT];simp only[adp,beq_iff_eq]at h;rw[if_pos h]
   have hb2:aL σ A.st v 76 ((l.take i).map λp=>aW (bT p)):=by rw[hst];exact hb.more _
   simp only[go_sem,simprocAttr,h3,h8,hst,hb.ok,hb.un,aW];refine bA.own 1048576 (by kernel_rfl) hb2.bld (.lit _ _ _) (by simp;omega) λv' σ' ha'=>?_
   have hb':=hb2.app ha';simp only[go_sem,simprocAttr,h3,h8,hb.ok,hb.un,hb'.ok,hb'.un];refine⟨hc,_,rfl,ah hc (by rw[au];omega),?_⟩;rw[ai ha,ac9];exact hb'
  .rw[acQ hc]at hb;exact⟨_,rfl,hb⟩
 simp only[go_sem,simprocAttr,h3,hb.ok,hb.un];refine⟨hb.cb.trans (.sub ?_),hb.ext⟩;have:=Hl (l.map bT);rw[adt]at this;exact this
theorem Nx (c:Clause):ag prog W0 245 [aF c] (.bool (decide (6<c.length))):=by
 refine an [2] [] func245 rfl rfl ntmps245 rfl rfl (.bool _) λhs σ=>?_
 simp only[go_sem,simprocAttr,aF,acO];grind [aq]
theorem Mu (a:Atom):ag prog W0 246 [aW a] (.bool (!cu a)):=by
 refine an [2] [1] func246 rfl rfl ntmps246 rfl rfl (.bool _) λhs σ=>?_
 simp only[go_sem,simprocAttr,aW];refine aj.fn (w8 a) ?_;simp only[go_sem,simprocAttr]
 done
theorem Ln (l:List Clause):ag prog W0 198 [aA l] (.int .i64 (cR l)):=by
 refine an [2] [] func198 rfl rfl ntmps198 rfl rfl (.int _ _) λhs σ=>?_
 have hl:=(aQ (hs _ (acR ..))).1;simp only[go_sem,simprocAttr,aA,acO];refine aB.fnG (λ_=>Mg aF dd.atoms l (λc=>decide (6<c.length)) _ [] (λa _=>Nx a)) ?_;simp only[go_sem,simprocAttr];have e:(decide ((12:Int)<l.length)||l.any λc=>decide (6<c.length))=decide (12<l.length\/(l.any λc=>decide (6<c.length))=true):=by
  grind
 rw[e];refine⟨λh=>az (by grind [cR]),λh=>?_⟩;have hm:cR l=if l.any (λc=>decide (c.length=0)||c.any λa=>!cu a)=true then 3 else 0:=by grind [cR]
 refine ae.upto [12,13] (.of (by kernel_rfl)) l.length (λi A=>A.env 14= .int .i64 i/\A.st=σ/\ ∀c∈l.take i,(decide (c.length=0)||c.any λa=>!cu a)=false) 0 (acP _) ?_ λi B hi ⟨h8,hst,hI⟩=>?_
 .simp only[go_sem,simprocAttr];simp
 simp only[go_sem,simprocAttr,h8,hst,acO];refine⟨λhc=>⟨hc,?_⟩,λhc=>?_⟩
 .obtain⟨a,ha⟩:=get_some hc;simp only[aw ha];simp only[go_sem,simprocAttr,aF,acO];refine aB.fnG (λ_=>Ax aW dd.atom a (λc=>!cu c) _ [] (λa _=>Mu a)) ?_;simp only[go_sem,simprocAttr,h8,hst];have e:((a.length:Int)==0)=decide (a.length=0):=by grind
  simp only[e];refine⟨λhb=>az ?_,λhb=>⟨hc,ah hc hl,?_⟩⟩
  .grind
  .rw[ai ha];intro c hcm;rcases acW.1 hcm with hcm|hcm
   .grind
   simp_all
 grind [az]
theorem Kf (l:List Clause):ag prog W0 107 [aA l] (.int .i64 (cR l)):=by
 refine an [2] [8] func107 rfl rfl ntmps107 rfl rfl (.int _ _) λhs σ=>?_
 have hl:=(aQ (hs _ (acR ..))).1;have hls:=(aQ (hs _ (acR ..))).2;simp only[go_sem,simprocAttr,aA,acO];refine⟨λh=>az (by grind [cR]),λh=>?_⟩;have h12: ¬12<l.length:=λe=>by omega
 refine ae.at [0] (.of (by kernel_rfl)) (λA=>A.st=σ/\(l.any λc=>decide (6<c.length))=false) ?_ λB ⟨hst,h6⟩=>?_
 .refine ae.upto [0,12,13] (.of (by kernel_rfl)) l.length (λi A=>A.env 14= .int .i64 i/\A.st=σ/\ ∀c∈l.take i,c.length<=6) 0 (acP _) ?_ λi B hi ⟨h8,hst,hI⟩=>?_
  .simp only[go_sem,simprocAttr];simp
  simp only[go_sem,simprocAttr,h8,hst,acO];refine⟨λhc=>⟨hc,?_⟩,λhc=>?_⟩
  .obtain⟨a,ha⟩:=get_some hc;simp only[aw ha];simp only[go_sem,simprocAttr,aF,acO];refine⟨λhb=>az ?_,λhb=>⟨hc,ah hc hl,?_⟩⟩
   .grind [cR]
   .rw[ai ha];grind
  grind
 have hm:cR l=if l.any (λc=>decide (c.length=0)||c.any λa=>!cu a)=true then 3 else 0:=by grind [cR]
 simp only[go_sem,simprocAttr];refine ae.upto [22,23] (.of (by kernel_rfl)) l.length (λi A=>A.env 24= .int .i64 i/\Ext σ A.st/\ ∀c∈l.take i,(decide (c.length=0)||c.any λa=>!cu a)=false) 0 (acP _) ?_ λi B hi ⟨h8,hst,hI⟩=>?_
 .simp only[go_sem,simprocAttr];grind [Ext.refl]
 simp only[go_sem,simprocAttr,h8,acO];refine⟨λhc=>⟨hc,?_⟩,λhc=>⟨az ?_,hst⟩⟩
 .obtain⟨c,hcc⟩:=get_some hc;simp only[aw hcc];have hcl:c.length<=maxLen:=(aQ (hls c (acT hcc))).1;simp only[go_sem,simprocAttr,aF,acO];refine⟨λh0=>⟨az ?_,hst⟩,λh0=>?_⟩
  .grind
  refine ae.ats [22,23,24] (.of (by kernel_rfl)) (λA=>Ext σ A.st/\(c.any λa=>!cu a)=false) ?_ λB ⟨hst,h6⟩=>?_
  .refine ae.upto [22,23,24,31,32] (.of (by kernel_rfl)) c.length (λi A=>A.env 33= .int .i64 i/\Ext σ A.st/\ ∀a∈c.take i,cu a=true) 0 (acP _) ?_ λj B hj ⟨h33,hst,hJ⟩=>?_
   .simp only[go_sem,simprocAttr];simp[hst]
   simp only[go_sem,simprocAttr,h33,acO];refine⟨λhc'=>⟨hc',?_⟩,λhc'=>?_⟩
   .obtain⟨a,ha⟩:=get_some hc';simp only[aw ha];simp only[go_sem,simprocAttr,aW];refine aj.fn (EK a) ?_;simp only[go_sem,simprocAttr,h33];refine⟨λhb=>⟨az ?_,hst.app _⟩,λhb=>⟨hc',ah hc' hcl,hst.app _,?_⟩⟩
    .grind
    .rw[ai ha];grind
   grind
  simp only[go_sem,simprocAttr,h8];refine⟨hc,ah hc hl,hst,?_⟩;rw[ai hcc];grind
 grind
theorem getD_map {α:Type}{f:α->AV}{l:List α}{i:Nat}{a:α}{d:AV}(h:l[i]?=some a):(l.map f)[i]?.getD d=f a:=by
 simp_all
theorem Jt (l:List Atom):ag prog W0 104 [.sl 76 (l.map aW)] (.sl 76 ((l.take 13).map aW)):=by
 refine an [2] [] func104 rfl rfl ntmps104 rfl rfl (ji ry _) λhs σ=>?_
 have e:tV (l.length:Int) 13=((min l.length 13:Nat):Int):=by unfold tV;split<;>omega
 simp only[go_sem,simprocAttr,acO,e];refine⟨by omega,?_⟩;rw[<-ac6,adj.2 (show min (min l.length 13) l.length=min 13 l.length by omega)];exact .refl _
theorem FU (l:List iR):ag prog W0 106 [.sl 179 (l.map dA)] (.sl 179 ((l.take 13).map dA)):=by
 refine an [2] [] func106 rfl rfl ntmps106 rfl rfl (ji wE _) λhs σ=>?_
 have e:tV (l.length:Int) 13=((min l.length 13:Nat):Int):=by unfold tV;split<;>omega
 simp only[go_sem,simprocAttr,acO,e];refine⟨by omega,?_⟩;rw[<-ac6,adj.2 (show min (min l.length 13) l.length=min 13 l.length by omega)];exact .refl _
theorem HT (l:List Atom):cR (single (l.take 13))=cR (single l):=by
 grind [cR,single,acQ]
theorem JY (p:Pkg):ag prog W0 46 [ay p] (.int .i64 (aS p)):=by
 refine an [2] [1] func46 rfl rfl ntmps46 rfl rfl (.int _ _) λhs σ=>?_
 simp only[go_sem,simprocAttr,ay];refine aj.fn (G5 p.name) ?_;simp only[go_sem,simprocAttr];refine aB.fnG (λ_=>GZ p.ver) ?_;simp only[go_sem,simprocAttr];refine⟨λh=>az (by grind [aS]),λh=>?_⟩;have hm:aS p=orL [cR p.pre,cR p.dep,cR p.rcm,cR (single p.con),cR (single p.brk),cR (single (p.eX.map bT))]:=by grind [aS]
 refine⟨.of (by kernel_rfl),aB.fn (Jt p.con) ?_⟩;simp only[go_sem,simprocAttr];refine aB.fn (p0 (p.con.take 13) (by grind)) ?_;simp only[go_sem,simprocAttr];refine aB.fn (Jt p.brk) ?_;simp only[go_sem,simprocAttr];refine aB.fn (p0 (p.brk.take 13) (by grind)) ?_;simp only[go_sem,simprocAttr];refine aB.fn (FU p.eX) ?_;simp only[go_sem,simprocAttr];refine aB.fn (Ds (p.eX.take 13) (by grind)) ?_;simp only[go_sem,simprocAttr];refine aB.fn (p0 ((p.eX.take 13).map bT) (by grind)) ?_;simp only[go_sem,simprocAttr]
 let ls:=[p.pre,p.dep,p.rcm,single (p.con.take 13),single (p.brk.take 13),single ((p.eX.take 13).map bT)]
 have hl:orL (ls.map cR)=aS p:=by
  rw[hm];simp only[ls,adn,adF,HT,ac6]
 have e:[aA p.pre,aA p.dep,aA p.rcm,aA (single (p.con.take 13)),aA (single (p.brk.take 13)),aA (single ((p.eX.take 13).map bT))]=ls.map aA:=rfl;simp only[e];refine ae.upto [35] (.of (by kernel_rfl)) 6 (λi A=>A.env 36= .int .i64 i/\A.st=σ/\orL ((ls.map cR).drop i)=aS p) 0 (acP _) ?_ λi B hi ⟨h8,hst,hI⟩=>?_
 .simp only[go_sem,simprocAttr];exact hl
 simp only[go_sem,simprocAttr,h8,hst];refine⟨λhc=>?_,λhc=>az ?_⟩
 .have hc':i<ls.length:=by show i<6;omega
  obtain⟨c,hcc⟩:=get_some hc';obtain⟨hlt,hae⟩:=acS.1 hcc;rw[acU (by simp_all),ac4,hae]at hI;simp only[getD_map hcc];refine⟨by simp_all,trivial,aj.fn (Kf c) ?_⟩;simp only[go_sem,simprocAttr,h8,hst];grind [az,orL,ah,au]
 .rw[acV (by show 6<=i;omega)]at hI;exact hI
structure iE (p:Pkg):Prop where
 con:p.con.length<=1048576
 brk:p.brk.length<=1048576
 eX:p.eX.length<=1048576
theorem Kc (p:Pkg)(hp:iE p):ag prog W0 128 [ay p] (.int .i64 (aS p)):=by
 refine an [2] [1] func128 rfl rfl ntmps128 rfl rfl (.int _ _) λhs σ=>?_
 simp only[go_sem,simprocAttr,ay];refine aj.fn (kO p.ver) ?_;have hpv: ∃e u r,gl (fC p.ver)= .tup [.str e,.str u,.str r,.int .i64 (if bP p.ver then 0 else 3)]:=by
  cases h:fC p.ver with
  |none=>exact⟨_,_,_,by rw[bP,h];rfl⟩
  |some v=>exact⟨_,_,_,by rw[bP,h];rfl⟩
 obtain⟨e,u,r,hpv⟩:=hpv;rw[hpv];simp only[go_sem,simprocAttr];refine aj.fn (AA p.name) ?_;simp only[go_sem,simprocAttr];have hb:(!eD p.name||(if bP p.ver=true then(0:Int)else 3) !=0)=(!eD p.name|| !bP p.ver):=by grind
 simp only[hb];refine⟨λh=>az (by grind [aS]),λh=>?_⟩;have hm:aS p=orL [cR p.pre,cR p.dep,cR p.rcm,cR (single p.con),cR (single p.brk),cR (single (p.eX.map bT))]:=by grind [aS]
 refine⟨.of (by kernel_rfl),aB.fn (vf p.con hp.con) ?_⟩;simp only[go_sem,simprocAttr];refine aB.fn (vf p.brk hp.brk) ?_;simp only[go_sem,simprocAttr];refine aB.fn (BN p.eX hp.eX) ?_;simp only[go_sem,simprocAttr]
 let ls:=[p.pre,p.dep,p.rcm,single p.con,single p.brk,single (p.eX.map bT)]
 have hl:orL (ls.map cR)=aS p:=by
  rw[hm];simp only[ls,adn,adF]
 have e:[aA p.pre,aA p.dep,aA p.rcm,aA (single p.con),aA (single p.brk),aA (single (p.eX.map bT))]=ls.map aA:=rfl;simp only[e];refine ae.upto [41,42] (.of (by kernel_rfl)) 6 (λi A=>A.env 43= .int .i64 i/\A.st=σ/\orL ((ls.map cR).drop i)=aS p) 0 (acP _) ?_ λi B hi ⟨h8,hst,hI⟩=>?_
 .simp only[go_sem,simprocAttr];exact hl
 simp only[go_sem,simprocAttr,h8,hst];refine⟨λhc=>?_,λhc=>az ?_⟩
 .have hc':i<ls.length:=by show i<6;omega
  obtain⟨c,hcc⟩:=get_some hc';obtain⟨hlt,hae⟩:=acS.1 hcc;rw[acU (by simp_all),ac4,hae]at hI;simp only[aw hcc];refine⟨by simp_all,trivial,aj.fn (Ln c) ?_⟩;simp only[go_sem,simprocAttr,h8,hst];grind [az,orL,ah,au]
 .rw[acV (by show 6<=i;omega)]at hI;exact hI
theorem Py (p q:Pkg):ag prog W0 181 [ay q,.loc 51 (ay p)] (.bool (dy p q)):=by
 refine an [3] [2] func181 rfl rfl ntmps181 rfl rfl (.bool _) λhs σ=>?_
 simp only[go_sem,simprocAttr,ay];refine aB.fnG (λ_=>ni q.ver p.ver) ?_;simp only[go_sem,simprocAttr];exact aq rfl
theorem dd.pkg (p:Pkg):dd (ay p):=trivial
@[go_sem] theorem W5 (g:Option Bool)(p:Pkg):okM g (ay p)=True:=eq_true trivial
@[go_sem] theorem WU (p:Pkg):unm (ay p)=ay p:=rfl
theorem o6 (l:List Pkg)(hp: ∀p∈l,iE p):ag prog W0 115 [aM l] (.int .i64 (aZ l)):=by
 refine an [2] [4,8] func115 rfl rfl ntmps115 rfl rfl (.int _ _) λhs σ=>?_
 have hl:=(aQ (hs _ (acR ..))).1;simp only[go_sem,simprocAttr,aM,acO];refine⟨λh=>az (by grind [aZ]),λh=>?_⟩;have h24: ¬24<l.length:=λe=>by omega
 refine ae.at [0] (.of (by kernel_rfl)) (λA=>Ext σ A.st/\orL (l.map aS)=0) ?_ λB ⟨hst,h6⟩=>?_
 .refine ae.upto [0,12,13] (.of (by kernel_rfl)) l.length (λi A=>A.env 14= .int .i64 i/\Ext σ A.st/\orL ((l.map aS).drop i)=orL (l.map aS)) 0 (acP _) ?_ λi B hi ⟨h8,hst,hI⟩=>?_
  .simp only[go_sem,simprocAttr];simp[Ext.refl]
  simp only[go_sem,simprocAttr,h8,acO];refine⟨λhc=>⟨hc,?_⟩,λhc=>?_⟩
  .obtain⟨a,ha⟩:=get_some hc;obtain⟨hlt,hae⟩:=acS.1 ha;rw[acU (by simp_all),ac4,hae]at hI;simp only[aw ha];simp only[go_sem,simprocAttr];refine⟨by kernel_rfl,aj.fn (Kc a (hp a (acT ha))) ?_⟩;simp only[go_sem,simprocAttr,h8];refine⟨λhq=>⟨az ?_,hst.app _⟩,λhq=>⟨hc,ah hc hl,hst.app _,?_⟩⟩
   .grind [orL,aZ]
   grind [orL]
  .rw[acV (by simp_all)]at hI;exact⟨hst,hI.symm⟩
 have hm:aZ l=if pC [] l=true then 4 else if 10<(dr l []).length then 12 else 0:=by grind [aZ]
 simp only[go_sem,simprocAttr,acO];refine ae.at [0,24,25] (.of (by kernel_rfl)) (λA=>∃ v,A.env 6=v/\aL σ A.st v 9 ((dr l []).map .str)/\pC [] l=false) ?_ λB ⟨v,h6,hb,hd⟩=>?_
 .refine ae.upto [0,24,25] (.of (by kernel_rfl)) l.length (λi A=>∃ v acc,A.env 6=v/\A.env 26= .int .i64 i/\aL σ A.st v 9 (acc.map .str)/\dr (l.drop i) acc=dr l []/\pC (l.take i) (l.drop i)=pC [] l/\acc.length<=i) 0 (acP _) ?_ λi B hi ⟨v,acc,h6,h8,hb,hn,hd,hal⟩=>?_
  .simp only[go_sem,simprocAttr];grind [aL.nil]
  simp only[go_sem,simprocAttr,h6,h8,acO];refine⟨λhc=>⟨hc,?_⟩,λhc=>?_⟩
  .obtain⟨a,ha⟩:=get_some hc;obtain⟨hlt,hae⟩:=acS.1 ha;rw[acU hc,hae]at hn hd;simp only[aw ha];simp only[go_sem,simprocAttr];rw[<-ac6];refine⟨by kernel_rfl,⟨acP _,hi⟩,aj.fn (Q0 ay dd.pkg (l.take i) (dy a) _ [.loc 51 (ay a)] (λq _=>Py a q)) ?_⟩;simp only[go_sem,simprocAttr,ay,h6,hb.ok,hb.un];rw[pC]at hd;refine⟨λhq=>⟨az ?_,hb.ext.app _⟩,λhq=>aj.fn ((FZ acc a.name).cb (.cons hb.cb (.cons (.refl _) .nil))) ?_⟩
   .simp_all
   rw[hq,adD,<-ai ha]at hd;simp only[go_sem,simprocAttr,h6,h8,hb.ok,hb.un];rw[dr]at hn;have hb2:=(hb.more [none]);refine⟨λh=>?_,λh=>⟨hc,v,acc,rfl,ah hc hl,hb2,?_,hd,by omega⟩⟩
   .refine bA.own 1048576 (by kernel_rfl) hb2.bld (.lit _ _ _) (by grind) λv' σ' ha'=>?_
    have hb':=hb2.app ha';simp only[go_sem,simprocAttr,h8];refine⟨hc,_,acc++[a.name],rfl,ah hc hl,by simp_all,?_,hd,by simp_all⟩;simp_all
   simp_all
  .rw[acV hc]at hn hd;exact⟨_,rfl,by rw[<-hn];exact hb,hd.symm⟩
 simp only[go_sem,simprocAttr,h6,hb.ok,hb.un,hb.len,hb.fR,acO];refine⟨λhq=>⟨az ?_,hb.ext⟩,λhq=>⟨az ?_,hb.ext⟩⟩
 .grind
 grind
theorem ID (l:List Pkg):ag prog W0 54 [aM l] (.int .i64 (aZ l)):=by
 refine an [2] [4,8,11] func54 rfl rfl ntmps54 rfl rfl (.int _ _) λhs σ=>?_
 have hl:=(aQ (hs _ (acR ..))).1;simp only[go_sem,simprocAttr,aM,acO];refine⟨λh=>az (by grind [aZ]),λh=>?_⟩;have h24: ¬24<l.length:=λe=>by omega
 refine ae.at [0] (.of (by kernel_rfl)) (λA=>Ext σ A.st/\orL (l.map aS)=0) ?_ λB ⟨hst,h6⟩=>?_
 .refine ae.upto [0,15,16] (.of (by kernel_rfl)) l.length (λi A=>A.env 17= .int .i64 i/\Ext σ A.st/\orL ((l.map aS).drop i)=orL (l.map aS)) 0 (acP _) ?_ λi B hi ⟨h8,hst,hI⟩=>?_
  .simp only[go_sem,simprocAttr];simp[Ext.refl]
  simp only[go_sem,simprocAttr,h8,acO];refine⟨λhc=>⟨hc,?_⟩,λhc=>?_⟩
  .obtain⟨a,ha⟩:=get_some hc;obtain⟨hlt,hae⟩:=acS.1 ha;rw[acU (by simp_all),ac4,hae]at hI;simp only[aw ha];simp only[go_sem,simprocAttr];refine⟨by kernel_rfl,aj.fn (JY a) ?_⟩;simp only[go_sem,simprocAttr,h8];refine⟨λhq=>⟨az ?_,hst.app _⟩,λhq=>⟨hc,ah hc hl,hst.app _,?_⟩⟩
   .grind [orL,aZ]
   grind [orL]
  .rw[acV (by simp_all)]at hI;exact⟨hst,hI.symm⟩
 have hm:aZ l=if pC [] l=true then 4 else if 10<(dr l []).length then 12 else 0:=by grind [aZ]
 simp only[go_sem,simprocAttr,acO];refine ae.at [0,27,28] (.of (by kernel_rfl)) (λA=>∃ v,A.env 6=v/\aL σ A.st v 9 ((dr l []).map .str)/\pC [] l=false) ?_ λB ⟨v,h6,hb,hd⟩=>?_
 .refine ae.upto [0,27,28] (.of (by kernel_rfl)) l.length (λi A=>∃ v acc,A.env 6=v/\A.env 29= .int .i64 i/\aL σ A.st v 9 (acc.map .str)/\dr (l.drop i) acc=dr l []/\pC (l.take i) (l.drop i)=pC [] l/\acc.length<=i/\ ∀n,acc.any (λx=>n==x)=(l.take i).any (λq=>q.name==n)) 0 (acP _) ?_ λi B hi ⟨v,acc,h6,h8,hb,hn,hd,hal,hnm⟩=>?_
  .simp only[go_sem,simprocAttr];grind [aL.nil]
  simp only[go_sem,simprocAttr,h6,h8,acO];refine⟨λhc=>⟨hc,?_⟩,λhc=>?_⟩
  .obtain⟨a,ha⟩:=get_some hc;obtain⟨hlt,hae⟩:=acS.1 ha;rw[acU hc,hae]at hn hd;simp only[aw ha];simp only[go_sem,simprocAttr];rw[<-ac6];refine⟨by kernel_rfl,⟨acP _,hi⟩,?_⟩;rw[pC]at hd;rw[dr]at hn;have hb2:=(hb.more [none]);have hil:(l.take i).length=i:=by simp_all
   refine ae.at [0,6,8,27,28,29] (.of (by kernel_rfl)) (λA=>Ext (B.st++[none]) A.st/\A.env 9= .bool ((l.take i).any λq=>q.name==a.name)/\(l.take i).any (dy a)=false) ?_ λA ⟨hst,h9,hd2⟩=>?_
   .refine ae.upto [0,6,8,27,28,29,36,37] (.of (by kernel_rfl)) i (λj A=>A.env 38= .int .i64 j/\Ext (B.st++[none]) A.st/\A.env 9= .bool (((l.take i).take j).any λq=>q.name==a.name)/\((l.take i).take j).any (dy a)=false) 0 (acP _) ?_ λj A hj ⟨h38,hst,h9,hd2⟩=>?_
    .simp only[go_sem,simprocAttr,acO];simp[Ext.refl]
    simp only[go_sem,simprocAttr,h38,h9,acO];refine⟨λhj'=>⟨hj',?_⟩,λhj'=>?_⟩
    .obtain⟨b,hbj⟩:=get_some hj';have hjl:j<i:=by omega
     simp only[aw hbj];simp only[go_sem,simprocAttr,ay];have he: ∀f:Pkg->Bool,((l.take i).take (j+1)).any f=(((l.take i).take j).any f||f b):=λf=>by rw[ai hbj,adB];simp
     refine⟨λhq=>aj.fn (oC b.ver a.ver) ?_,λhq=>?_⟩
     .simp only[go_sem,simprocAttr,h38];refine⟨λhv=>⟨az ?_,hb2.ext.trans (hst.app _)⟩,λhv=>⟨hjl,ah hjl (by omega),hst.app _,?_,?_⟩⟩
      .grind [dy]
      .simp_all
      grind [dy]
     grind [ah,Ext.app,dy]
    grind
   have hb3:=hb2.on hst;rw[hd2,adD,<-ai ha]at hd;have hns: ∀acc':List (List UInt8),acc'=(if (acc.any λx=>a.name==x)=true then acc else acc++[a.name])-> ∀n,acc'.any (λx=>n==x)=(l.take (i+1)).any (λq=>q.name==n):=λacc' e n=>by
    rw[ai ha,adB,<-hnm n,e];grind
   simp only[go_sem,simprocAttr,ay,h6,h8,h9,hb3.ok,hb3.un];refine⟨λh=>?_,λh=>⟨hc,v,acc,rfl,ah hc hl,hb3,?_,hd,by omega,?_⟩⟩
   .refine bA.own 1048576 (by kernel_rfl) hb3.bld (.lit _ _ _) (by grind) λv' σ' ha'=>?_
    have hb':=hb3.app ha';simp only[go_sem,simprocAttr,h8];rw[<-hnm]at h;rw[if_neg (by simp_all)]at hn hns;refine⟨hc,_,acc++[a.name],rfl,ah hc hl,by simp_all,hn,hd,by simp_all,hns _ rfl⟩
   .simp_all
   simp_all
  .rw[acV hc]at hn hd;exact⟨_,rfl,by rw[<-hn];exact hb,hd.symm⟩
 simp only[go_sem,simprocAttr,h6,hb.ok,hb.un,hb.len,hb.fR,acO];refine⟨λhq=>⟨az ?_,hb.ext⟩,λhq=>⟨az ?_,hb.ext⟩⟩
 .grind
 grind
end Go.Proofs.Tryz
end
section
namespace Go.Av
def dO (p:Pkg)(a:Atom):Bool:=
 cu a&&((p.name==a.name&&qk a.rel p.ver a.ver)||p.eX.any λv=>v.name==a.name&&(a.rel==0||qk a.rel v.ver a.ver))
def uV (p q:Pkg):Bool:=p.con.any (dO q)||p.brk.any (dO q)
def gJ (p q:Pkg):Bool:=p.name !=q.name&&(uV p q||uV q p)
def sM (c:Clause)(l:List Pkg):Bool:=c.any λa=>l.any λp=>dO p a
def Kb (l bef:List Pkg)(p:Pkg):Bool:=aS p !=0||bef.any (λq=>q.name==p.name||gJ p q)||(p.pre.any (λc=>!sM c l)||p.dep.any (λc=>!sM c l))
def DJ (l:List Pkg):List Pkg->List Pkg->Bool
 |_,[]=>false
 |bef,p::r=>Kb l bef p||DJ l (bef++[p]) r
def kI (l:List Pkg):Bool:=!DJ l [] l
end Go.Av
end
section
namespace Go.Proofs.Tryz
open Go Go.Av
set_option maxRecDepth 10000
variable {W0 :World}
@[go_sem] theorem Uh (g:Option Bool)(p:Atom):okM g (aW p)=True:=eq_true trivial
@[go_sem] theorem Sd (p:Atom):unm (aW p)=aW p:=rfl
@[go_sem] theorem Q2 (p:Atom):bb prog 76 (aW p)=true:=by kernel_rfl
@[go_sem] theorem SS (p:Pkg):bb prog 51 (ay p)=true:=by kernel_rfl
@[go_sem] theorem Tk (g:Option Bool)(p:iR):okM g (dA p)=True:=eq_true trivial
@[go_sem] theorem S3 (p:iR):unm (dA p)=dA p:=rfl
theorem dd.eX (p:iR):dd (dA p):=trivial
theorem O4 (a:Atom)(v:iR):ag prog W0 190 [dA v,.loc 76 (aW a)] (.bool (v.name==a.name&&(a.rel==0||qk a.rel v.ver a.ver))):=by
 refine an [3] [2] func190 rfl rfl ntmps190 rfl rfl (.bool _) λhs σ=>?_
 simp only[go_sem,simprocAttr,dA,aW];refine aB.fnG (λ_=>DI a.rel v.ver a.ver) ?_;simp only[go_sem,simprocAttr]
theorem we (p:Pkg)(a:Atom):ag prog W0 121 [ay p,aW a] (.bool (dO p a)):=by
 refine an [4] [2,3] func121 rfl rfl ntmps121 rfl rfl (.bool _) λhs σ=>?_
 simp only[go_sem,simprocAttr,ay,aW];refine aj.fn (w8 a) ?_;simp only[go_sem,simprocAttr];refine⟨λh=>aq (by grind [dO]),λh=>aB.fnG (λ_=>DI a.rel p.ver a.ver) ?_⟩;simp only[go_sem,simprocAttr];refine⟨λh2=>aq (by grind [dO]),λh2=>aj.fn (RS dA dd.eX p.eX _ _ [.loc 76 (aW a)] (λq _=>O4 a q)) ?_⟩;simp only[go_sem,simprocAttr];grind [aq,dO]
theorem tN (q:Pkg)(a:Atom):ag prog W0 242 [aW a,.loc 51 (ay q)] (.bool (dO q a)):=by
 refine an [3] [2] func242 rfl rfl ntmps242 rfl rfl (.bool _) λhs σ=>?_
 simp only[go_sem,simprocAttr];refine aj.fn (we q a) ?_;simp only[go_sem,simprocAttr]
 try exact aq rfl
theorem wv (p q:Pkg):ag prog W0 195 [ay p,ay q] (.bool (uV p q)):=by
 refine an [4] [2,3] func195 rfl rfl ntmps195 rfl rfl (.bool _) λhs σ=>?_
 simp only[go_sem,simprocAttr,ay];refine aj.fn (Lr aW dd.atom p.con (dO q) _ [.loc 51 (ay q)] (λa _=>tN q a)) ?_;simp only[go_sem,simprocAttr];refine aB.go (λ_=>Lr aW dd.atom p.brk (dO q) _ [.loc 51 (ay q)] (λa _=>tN q a)) ?_;simp only[go_sem,simprocAttr]
 try exact aq rfl
theorem DA (p q:Pkg):ag prog W0 127 [ay p,ay q] (.bool (gJ p q)):=by
 refine an [4] [2,3] func127 rfl rfl ntmps127 rfl rfl (.bool _) λhs σ=>?_
 simp only[go_sem,simprocAttr,ay];refine aB.fnG (λ_=>wv p q) ?_;simp only[go_sem,simprocAttr];refine aB.fnG (λ_=>wv q p) ?_;simp only[go_sem,simprocAttr]
 try exact aq rfl
end Go.Proofs.Tryz
end
section
namespace Go.Av
section
variable {P :Program}{W0:World}{A:aa}
def QH :AV->Option Nat
 | .row _ id _ _=>some id
 |_=>none
structure ff (σ st:ab)(v:AV)(e:TypeId)(xs:List AV):Prop where
 row:dS st v e xs
 ext:Ext σ st
 low: ∀id,QH v=some id->σ.length<=id
theorem ff.nil {σ st:ab}(h:Ext σ st)(e:TypeId):ff σ st .ar e []:=⟨.inl ⟨rfl,rfl⟩,h,λt h=>by cases h⟩
theorem ff.notM {σ st:ab}{v:AV}{e:TypeId}{xs:List AV}(h:ff σ st v e xs):dd v:=by
 rcases h.row with⟨rfl,rfl⟩|rfl|⟨_,_,_,_,rfl,_⟩<;>trivial
theorem ff.ok {σ st:ab}{v:AV}{e:TypeId}{xs:List AV}(h:ff σ st v e xs)(g:Option Bool):okM g v=True:=cq h.notM
theorem ff.un {σ st:ab}{v:AV}{e:TypeId}{xs:List AV}(h:ff σ st v e xs):unm v=v:=cY h.notM
theorem dS.len {st:ab}{v:AV}{e:TypeId}{xs:List AV}(h:dS st v e xs):oh v= .int .i64 xs.length:=by
 rcases h with⟨rfl,rfl⟩|rfl|⟨id,off,m,zs,rfl,_,h1,rfl⟩
 .rfl
 .rfl
 .have:((zs.drop off).take m).length=m:=by grind
  rw[this];rfl
theorem dS.fR {st:ab}{v:AV}{e:TypeId}{xs:List AV}(h:dS st v e xs)(P:Program)(t:TypeId):fR P t v=((elT P t).isSome=true):=by
 rcases h with⟨rfl,rfl⟩|rfl|⟨id,off,m,zs,rfl,_,h1,rfl⟩<;>rfl
theorem dS.read {st:ab}{v:AV}{e:TypeId}{xs:List AV}(h:dS st v e xs):eF st v e xs:=by
 rcases h with h|rfl|h
 .exact .inr (.inl h)
 .exact .inl rfl
 .exact .inr (.inr h)
theorem ff.more {σ st:ab}{v:AV}{e:TypeId}{xs:List AV}(h:ff σ st v e xs)(l:ab):ff σ (st++l) v e xs:=by
 refine⟨?_,h.ext.app l,h.low⟩;rcases h.row with h1|h1|⟨id,off,m,zs,h1,h2,h3⟩
 .exact .inl h1
 .exact .inr (.inl h1)
 .exact .inr (.inr ⟨id,off,m,zs,h1,by grind,h3⟩)
theorem ff.TF {σ st:ab}{v:AV}{e:TypeId}{xs:List AV}(h:ff σ st v e xs)(l:ab):Ext σ (cp v st++l):=by
 refine Ext.app ?_ l;unfold cp;split
 .exact h.ext.set (h.low _ rfl) _
 .exact h.ext
theorem bA.nF {σ:ab}{t u e:TypeId}{x y:AV}{xs ys:List AV}{dst:Option Nat}{k:aa->Prop}(N:Nat)(ho:xQ P t u e N=true)(h:ff σ A.st x e xs)(hy:eF A.st y e ys)(hN:xs.length+ys.length<=N)
  (hk: ∀v st',ff σ st' v e (xs++ys)->k ((A.put dst v).ax st')):bA P [t,u] [x,y] dst A k .mk:=by
 refine bA.row N ho h.row hy hN (λhe=>hk _ _ (by simp_all)) λhe=>hk _ _ ⟨.inr (.inr ⟨A.st.length,0,_,xs++ys,rfl,?_,by simp,by grind⟩),h.TF _,λid hid=>?_⟩
 .have:(cp x A.st).length=A.st.length:=by unfold cp;grind
  simp_all
 .cases hid;exact h.ext.le
theorem ff.Oe {σ:ab}{v:AV}{e:TypeId}{xs:List AV}{d:Nat}{x:Exit}(h:ff σ A.st v e xs)(hx:x= .ret\/x= .normal)(hd:A.env d=v):bt (λA=>dc (jw A.env [d]) (.sl e xs)/\A.st.take σ.length=σ) x A:=by
 have fin: ∀{B:aa},dc (jw B.env [d]) (.sl e xs)->B.st.take σ.length=σ->bt (λA=>dc (jw A.env [d]) (.sl e xs)/\A.st.take σ.length=σ) x B:=λh1 h2=>by
  grind [bt.ret,bt.normal]
 rcases h.row with⟨rfl,rfl⟩|rfl|⟨id,off,m,zs,rfl,h1,h2,rfl⟩
 .exact fin (by simp only[jw,hd];exact .ar _) h.ext
 .exact fin (by simp only[jw,hd];exact .lit _ _) h.ext
 .refine bt.frz d hd h1 h2 (fin ?_ ?_)
  .simp[jw,aa.upd,aa.ax];exact .refl _
  .exact h.ext.set (h.low _ rfl) _
end
end Go.Av
end
section
namespace Go.Proofs.Tryz
open Go Go.Av
set_option maxRecDepth 10000
variable {W0 :World}
theorem OL (σ:ab)(n:Nat)(hn:n<=1048576):
  aP prog W0 191 [.ar,.int .i64 n] σ λr σ'=>ff σ σ' r 77 []:=by
 refine bY [4] [] func191 rfl rfl ntmps191 rfl rfl λhs=>?_
 simp only[go_sem,simprocAttr];refine cj.at [0,1] (by kernel_rfl) (λA=>A.st=σ) (λh=>absurd (of_decide_eq_true h) (by omega)) (λ_=>?_) λB hst=>?_
 .simp only[go_sem,simprocAttr]
 simp only[go_sem,simprocAttr];have hw:IntKind.i64.wrap ((n:Int)-0)=n:=by grind [aH]
 simp only[hw];refine cj.at [] (by kernel_rfl) (λA=>ff σ A.st (A.env 0) 77 []) (λh=>?_) (λ_=>?_) λB hb=>?_
 .simp only[go_sem,simprocAttr];refine bA.zero (e:=77) 1048576 (by kernel_rfl) (kn:=.i64) (by kernel_rfl) (z:=.ar) (by kernel_rfl) (by kernel_rfl) (by simp_all) hn ?_;simp only[go_sem,simprocAttr,hst];exact⟨acP _,.inr (.inr ⟨_,0,0,List.replicate n .ar,rfl,by simp,by simp,rfl⟩),(Ext.refl _).app _,λid h=>by cases h;omega⟩
 .simp only[go_sem,simprocAttr,hst];exact .nil (.refl _) _
 simp only[go_sem,simprocAttr];refine bt.ret ?_;simp only[go_sem,simprocAttr];exact⟨_,.refl _,hb.ext.le,hb⟩
theorem pd {α:Type}{ls:List (List α)}{i:Nat}{l:List α}(h:ls[i]?=some l):(ls.take (i+1)).flatten=(ls.take i).flatten++l:=by
 simp_all[ai]
theorem yO (ls:List (List Clause))(hls:ls.length<=1048576)(hn:ls.flatten.length<=1048576):
  ag prog W0 124 [.sl 47 (ls.map aA)] (aA ls.flatten):=by
 refine jE [2] [] func124 rfl rfl ntmps124 rfl rfl (ec _) λhs σ=>?_
 have hfl: ∀i,(ls.take i).flatten.length<=1048576:=λi=>by
  grind [adi]
 simp only[go_sem,simprocAttr,acO];refine ae.at [0] (.of (by kernel_rfl)) (λA=>A.env 3= .int .i64 ls.flatten.length/\A.st=σ) ?_ λB ⟨h3,hst⟩=>?_
 .refine ae.upto [0,9,10] (.of (by kernel_rfl)) ls.length (λi A=>A.env 11= .int .i64 i/\A.st=σ/\A.env 3= .int .i64 (ls.take i).flatten.length) 0 (acP _) ?_ λi B hi ⟨h8,hst,h3⟩=>?_
  .simp only[go_sem,simprocAttr]
   try simp
  simp only[go_sem,simprocAttr,h8,h3,hst,acO];refine⟨λhc=>⟨hc,?_⟩,λhc=>by grind⟩;obtain⟨l,hl⟩:=get_some hc;simp only[aw hl];have h1:=hfl i;have h2:=hfl (i+1);rw[pd hl,ada]at h2;have hw:IntKind.i64.wrap (((ls.take i).flatten.length:Int)+(l.length:Int))=(((ls.take (i+1)).flatten.length:Nat):Int):=by
   rw[pd hl,ada,aH (by omega),Int.natCast_add]
  simp only[go_sem,simprocAttr,aA,acO,hw];grind [ah,au]
 simp only[go_sem,simprocAttr,h3];refine aj.goes (by simp only[go_sem,simprocAttr,hst]) (OL σ _ hn) λr σ' hr=>?_
 simp only[go_sem,simprocAttr,acO];refine ae.at [] (.of (by kernel_rfl)) (λA=>∃ v,A.env 6=v/\ff σ A.st v 77 (ls.flatten.map aF)) ?_ λB ⟨v,h6,hb⟩=>?_
 .refine ae.upto [25,26] (.of (by kernel_rfl)) ls.length (λi A=>A.env 27= .int .i64 i/\ ∃v,A.env 6=v/\ff σ A.st v 77 ((ls.take i).flatten.map aF)) 0 (acP _) ?_ λi B hi ⟨h8,v,h6,hb⟩=>?_
  .simp only[go_sem,simprocAttr];simp_all
  simp only[go_sem,simprocAttr,h8,h6,acO];refine⟨λhc=>⟨hc,?_⟩,λhc=>⟨_,rfl,by grind⟩⟩;obtain⟨l,hl⟩:=get_some hc;have h2:=hfl (i+1);rw[pd hl,ada]at h2;simp only[aw hl];simp only[go_sem,simprocAttr,aA,hb.ok,hb.un];refine bA.nF 1048576 (by kernel_rfl) hb (.sl _ _ _) (by grind) λv' st' hb'=>?_
  simp only[go_sem,simprocAttr,h8];refine⟨hc,ah hc (by grind [au]),_,rfl,?_⟩;simp_all[pd]
 simp only[go_sem,simprocAttr,h6];exact ff.Oe (hb) (.inl rfl) (by simp only[go_sem,simprocAttr])
end Go.Proofs.Tryz
end
section
namespace Go.Av
theorem aj.TY {P:Program}{W0:World}{A:aa}{g:FuncId}{caps us:List AV}{dst:Option Nat}{k:aa->Prop}{r:AV}{σ:ab}(hσ:A.st=σ)(h:aP P W0 g (us++caps) σ λr' σ'=>r'=r/\σ'=σ)(hk:k (A.put dst r)):aj P W0 (.fn g caps) us dst A k .mk:=.go hσ h λr' σ' ⟨h1,h2⟩=>by
 grind [pT]
section
variable {P :Program}
@[go_sem] theorem U2 (t t':TypeId)(id i:Nat)(path:List Nat):cA P .neq t (.ptr t' id i path) .nil=if gW P t then .bool true else .undef:=by grind [cA,cL,lI,AV.il]
@[go_sem] theorem WY (t t':TypeId)(id i:Nat)(path:List Nat):cC P .neq t (.ptr t' id i path) .nil=(gW P t=true):=by simp[cC,cL,lI,AV.il]
@[go_sem] theorem Vq (t t':TypeId)(id i:Nat)(path:List Nat):cA P .eql t (.ptr t' id i path) .nil=if gW P t then .bool false else .undef:=by grind [cA,cL,lI,AV.il]
@[go_sem] theorem Wy (t t':TypeId)(id i:Nat)(path:List Nat):cC P .eql t (.ptr t' id i path) .nil=(gW P t=true):=by simp[cC,cL,lI,AV.il]
end
structure Fr (F:List Nat)(σ σ':ab):Prop where
 len:σ.length<=σ'.length
 old: ∀j,j<σ.length->j∉F->σ'[j]?=σ[j]?
def aN :AV->List Nat
 | .own _ _ t=>[t]
 | .row _ id _ _=>[id]
 |_=>[]
theorem Fr.refl (F:List Nat)(σ:ab):Fr F σ σ:=⟨adk _,λ_ _ _=>rfl⟩
theorem Fr.ext {F:List Nat}{σ σ':ab}(h:Ext σ σ'):Fr F σ σ':=⟨h.le,λj hj _=>by
 have e:=congrArg (·[j]?) h;simp_all⟩
theorem Fr.trans {F G:List Nat}{σ σ' σ'':ab}(h:Fr F σ σ')(h':Fr G σ' σ'')(hG: ∀j∈G,j∈F\/σ.length<=j):Fr F σ σ'':=⟨adu h.len h'.len,λj hj hF=>by
 rw[h'.old j (adb hj h.len) (λe=>by grind),h.old j hj hF]⟩
theorem Fr.set {F:List Nat}{σ σ':ab}(h:Fr F σ σ'){id:Nat}(hid:id∈F\/σ.length<=id)(o:Option bK):Fr F σ (σ'.set id o):=⟨by simpa using h.len,λj hj hF=>by
 grind [Fr.old]⟩
theorem Fr.app {F:List Nat}{σ σ':ab}(h:Fr F σ σ')(l:ab):Fr F σ (σ'++l):=⟨by have:=h.len;grind,λj hj hF=>by
 grind [ade,Fr.old]⟩
theorem Fr.mono {F G:List Nat}{σ σ':ab}(h:Fr F σ σ')(hG: ∀j∈F,j∈G):Fr G σ σ':=⟨h.len,λj hj hF=>h.old j hj λe=>hF (hG j e)⟩
theorem Fr.tI {F:List Nat}{σ σ':ab}(h:Fr F σ σ'){τ:ab}(ht:Ext τ σ)(hF: ∀j∈F,τ.length<=j):Ext τ σ':=by
 refine ads λi=>?_
 have:=ht.le;have:=h.len;rw[ado];by_cases hi:i<τ.length
 .rw[if_pos hi,h.old i (by omega) (λe=>by grind)];have e:=congrArg (·[i]?) ht;grind
 grind
theorem mg {σ:ab}{id:Nat}{te:TypeId}{xs:List AV}(h:id<σ.length):live (σ.set id (some (.cells te xs))) id=True:=eq_true ⟨te,xs,by simp[h]⟩
theorem aO {σ:ab}{id:Nat}{te:TypeId}{xs:List AV}(h:σ[id]?=some (some (.cells te xs))):live σ id=True:=eq_true ⟨te,xs,h⟩
theorem Bld.notM {st:ab}{v:AV}{e:TypeId}{xs:List AV}(h:Bld st v e xs):dd v:=by
 rcases h with⟨rfl,rfl⟩|rfl|⟨t,rfl,_⟩<;>trivial
theorem Bld.ok {st:ab}{v:AV}{e:TypeId}{xs:List AV}(h:Bld st v e xs)(g:Option Bool):okM g v=True:=cq h.notM
theorem Bld.un {st:ab}{v:AV}{e:TypeId}{xs:List AV}(h:Bld st v e xs):unm v=v:=cY h.notM
theorem Bld.len {st:ab}{v:AV}{e:TypeId}{xs:List AV}(h:Bld st v e xs):oh v= .int .i64 xs.length:=by
 rcases h with⟨rfl,rfl⟩|rfl|⟨t,rfl,_⟩<;>rfl
theorem Bld.fR {st:ab}{v:AV}{e:TypeId}{xs:List AV}(h:Bld st v e xs)(P:Program)(t:TypeId):fR P t v=((elT P t).isSome=true):=by
 rcases h with⟨rfl,rfl⟩|rfl|⟨t,rfl,_⟩<;>rfl
theorem Bld.fits {st:ab}{v:AV}{e:TypeId}{xs:List AV}(h:Bld st v e xs)(P:Program)(t:TypeId):bb P t v=cg P t:=by
 rcases h with⟨rfl,rfl⟩|rfl|⟨t,rfl,_⟩<;>rfl
theorem dS.fits {st:ab}{v:AV}{e:TypeId}{xs:List AV}(h:dS st v e xs)(P:Program)(t:TypeId):bb P t v=cg P t:=by
 rcases h with⟨rfl,rfl⟩|rfl|⟨_,_,_,_,rfl,_⟩<;>rfl
theorem dS.notM {st:ab}{v:AV}{e:TypeId}{xs:List AV}(h:dS st v e xs):dd v:=by
 rcases h with⟨rfl,rfl⟩|rfl|⟨_,_,_,_,rfl,_⟩<;>trivial
theorem dS.ok {st:ab}{v:AV}{e:TypeId}{xs:List AV}(h:dS st v e xs)(g:Option Bool):okM g v=True:=cq h.notM
theorem dS.un {st:ab}{v:AV}{e:TypeId}{xs:List AV}(h:dS st v e xs):unm v=v:=cY h.notM
theorem bA.mI {P:Program}{A:aa}{σ:ab}{t u e:TypeId}{x y:AV}{xs ys:List AV}{dst:Option Nat}{k:aa->Prop}(hσ:A.st=σ)(N:Nat)(ho:xQ P t u e N=true)(hb:Bld σ x e xs)(hy:eF σ y e ys)(hN:xs.length+ys.length<=N)
  (hk: ∀v σ',App σ x e (xs++ys) v σ'->k ((A.put dst v).ax σ')):bA P [t,u] [x,y] dst A k .mk:=by
 grind [bA.own]
def dm (σ:ab)(x:AV)(e:TypeId)(xs:List AV):Prop:=(x= .ar/\xs=[])\/ ∃id off m zs,x= .row e id off m/\σ[id]?=some (some (.cells e zs))/\off+m<=zs.length/\xs=(zs.drop off).take m
theorem dm.st {σ:ab}{v:AV}{e:TypeId}{xs:List AV}(h:dm σ v e xs):dS σ v e xs:=by
 rcases h with h|h
 .exact .inl h
 .exact .inr (.inr h)
def ub (a b:Nat):AV->AV
 | .row e id off _=>.row e id (off+a) (b-a)
 |v=>v
@[go_sem] theorem Zp (a b:Nat)(e:TypeId)(id off m:Nat):ub a b (.row e id off m)= .row e id (off+a) (b-a):=rfl
@[go_sem] theorem VT (a b:Nat):ub a b .ar= .ar:=rfl
theorem dm.EF {σ:ab}{e:TypeId}{xs:List AV}{id off m:Nat}{zs:List AV}(h:off+m<=zs.length)(hx:xs=(zs.drop off).take m):xs.length=m:=by
 grind
theorem dm.YC {σ:ab}{v:AV}{e:TypeId}{xs:List AV}(h:dm σ v e xs)(A:aa)(lo hi:Option Operand):lM A lo hi v=ub (cZ A 0 lo) (cZ A xs.length hi) v:=by
 rcases h with⟨rfl,rfl⟩|⟨id,off,m,zs,rfl,h1,h2,h3⟩
 .rfl
 .rw[dm.EF (σ:=σ) (e:=e) (id:=id) h2 h3];rfl
theorem dm.oP {P:Program}{gd:Option Bool}{σ:ab}{v:AV}{e:TypeId}{xs:List AV}(h:dm σ v e xs){t:TypeId}(ht:elT P t=some e)(A:aa)(lo hi:Option Operand):kd P gd A t lo hi v=(0<af P e/\Go.Av.oP gd A lo hi xs.length):=by
 rcases h with⟨rfl,rfl⟩|⟨id,off,m,zs,rfl,h1,h2,h3⟩
 .rw[CB,ht];simp only[Option.isSome_some,true_and,ac2,Go.Av.oP,List.length_nil,Nat.le_zero]
  have:imp gd (cZ A 0 lo=0/\cZ A 0 hi=0)=imp gd (cZ A 0 lo<=cZ A 0 hi/\cZ A 0 hi=0):=by
   congr 1;refine propext ⟨λ⟨h1,h2⟩=>⟨by omega,h2⟩,λ⟨h1,h2⟩=>⟨by omega,h2⟩⟩
  rw[this]
 .rw[EH,ht,dm.EF (σ:=σ) (e:=e) (id:=id) h2 h3];simp
theorem dm.cut {σ:ab}{v:AV}{e:TypeId}{xs:List AV}(h:dm σ v e xs){a b:Nat}(hab:a<=b)(hb:b<=xs.length):dm σ (ub a b v) e ((xs.drop a).take (b-a)):=by
 rcases h with⟨rfl,rfl⟩|⟨id,off,m,zs,rfl,h1,h2,h3⟩
 .exact .inl ⟨rfl,by simp⟩
 .have hl:=dm.EF (σ:=σ) (e:=e) (id:=id) h2 h3;refine .inr ⟨id,off+a,b-a,zs,rfl,h1,by omega,?_⟩;grind [List.drop_take,List.drop_drop]
theorem oT (a b:Nat)(v:AV):aN (ub a b v)=aN v:=by cases v<;>rfl
theorem dm.keep {st st':ab}{v:AV}{e:TypeId}{xs:List AV}(h:dm st v e xs)(hk: ∀j∈aN v,st'[j]?=st[j]?):dm st' v e xs:=by
 rcases h with h|⟨id,off,m,zs,rfl,h,h2⟩
 .exact .inl h
 .exact .inr ⟨id,off,m,zs,rfl,by grind [aN],h2⟩
theorem dm.lt {st:ab}{v:AV}{e:TypeId}{xs:List AV}(h:dm st v e xs): ∀j∈aN v,j<st.length:=by
 rcases h with⟨rfl,_⟩|⟨id,off,m,zs,rfl,h,_⟩
 .simp[aN]
 grind [aN]
theorem dm.ne {st:ab}{v:AV}{e te:TypeId}{xs ys:List AV}(h:dm st v e xs){id:Nat}(hid:st[id]?=some (some (.cells te ys)))(ht:te≠e):id∉aN v:=λhj=>by
 rcases h with⟨rfl,_⟩|⟨id',off,m,zs,rfl,h,_⟩
 .grind [aN]
 grind [aN]
structure XY (σ:ab)(x:AV)(e:TypeId)(zs:List AV)(v:AV)(σ':ab):Prop where
 row:dm σ' v e zs
 fr:Fr (aN x) σ σ'
 aN: ∀j∈aN v,j∈aN x\/σ.length<=j
theorem bA.Am {P:Program}{A:aa}{σ:ab}{t u e:TypeId}{x y:AV}{xs ys:List AV}{dst:Option Nat}{k:aa->Prop}(hσ:A.st=σ)(N:Nat)(ho:xQ P t u e N=true)(hb:dm σ x e xs)(hy:eF σ y e ys)(hN:xs.length+ys.length<=N)
  (hk: ∀v σ',XY σ x e (xs++ys) v σ'->k ((A.put dst v).ax σ')):bA P [t,u] [x,y] dst A k .mk:=by
 subst hσ;have hkl:(cp x A.st).length=A.st.length:=by unfold cp;grind
 refine bA.row N ho hb.st hy hN (λhe=>hk _ _ ⟨by simp_all,.refl _ _,λj hj=>.inl hj⟩) λhe=>hk _ _ ⟨.inr ⟨A.st.length,0,_,xs++ys,rfl,?_,by simp,by grind⟩,?_,λj hj=>?_⟩
 .simp_all
 .refine Fr.app ?_ _;unfold cp;grind [Fr.set,Fr.refl,aN]
 grind [aN]
theorem Bld.cb {st:ab}{v:AV}{e:TypeId}{xs:List AV}(h:Bld st v e xs):dc v (.sl e xs):=by
 rcases h with⟨rfl,rfl⟩|rfl|⟨t,rfl,_⟩
 .exact .ar _
 .exact .lit _ _
 .exact .own _ _ _
theorem App.fr {σ σ':ab}{x v:AV}{e:TypeId}{zs:List AV}(h:App σ x e zs v σ'):Fr (aN x) σ σ':=⟨h.len,λj hj hF=>h.old j hj λe=>hF (by cases x<;>simp[fA]at e;grind [aN])⟩
theorem Bn {st:ab}{v:AV}{e:TypeId}{xs:List AV}(h:Bld st v e xs){j:Nat}:j∈aN v↔fA v=some j:=by
 rcases h with⟨rfl,rfl⟩|rfl|⟨t,rfl,_⟩
 .simp[aN,fA]
 .simp[aN,fA]
 grind [aN,fA]
theorem App.aN {σ σ':ab}{x v:AV}{e:TypeId}{zs xs:List AV}(h:App σ x e zs v σ')(hx:Bld σ x e xs): ∀j∈aN v,j∈aN x\/σ.length<=j:=λj hj=>by
 rw[Bn h.bld]at hj;grind [Bn,App.tok]
theorem Bld.keep {st st':ab}{v:AV}{e:TypeId}{xs:List AV}(h:Bld st v e xs)(hk: ∀j∈aN v,st'[j]?=st[j]?):Bld st' v e xs:=by
 rcases h with h|h|⟨t,rfl,h⟩
 .exact .inl h
 .exact .inr (.inl h)
 .exact .inr (.inr ⟨t,rfl,by grind [aN]⟩)
theorem Bld.lt {st:ab}{v:AV}{e:TypeId}{xs:List AV}(h:Bld st v e xs): ∀j∈aN v,j<st.length:=by
 rcases h with⟨rfl,_⟩|rfl|⟨t,rfl,h⟩
 .simp[aN]
 .simp[aN]
 grind [aN]
theorem Bld.ne {st:ab}{v:AV}{e:TypeId}{xs:List AV}(h:Bld st v e xs){id:Nat}{o:bK}(hid:st[id]?=some (some o))(ho:o≠ .tok):id∉aN v:=λhj=>by
 rcases h with⟨rfl,_⟩|rfl|⟨t,rfl,h⟩
 .grind [aN]
 .grind [aN]
 grind [aN]
theorem dS.keep {st st':ab}{v:AV}{e:TypeId}{xs:List AV}(h:dS st v e xs)(hk: ∀j∈aN v,st'[j]?=st[j]?):dS st' v e xs:=by
 rcases h with h|h|⟨id,off,m,zs,rfl,h,h2⟩
 .exact .inl h
 .exact .inr (.inl h)
 .exact .inr (.inr ⟨id,off,m,zs,rfl,by grind [aN],h2⟩)
theorem dS.lt {st:ab}{v:AV}{e:TypeId}{xs:List AV}(h:dS st v e xs): ∀j∈aN v,j<st.length:=by
 rcases h with⟨rfl,_⟩|rfl|⟨id,off,m,zs,rfl,h,_⟩
 .simp[aN]
 .simp[aN]
 grind [aN]
def FW (M:Nat->Bool)(l:Int):Bool:=if 0<l then M l.natAbs else !M l.natAbs
def xr (M:Nat->Bool)(c:List Int):Bool:=c.any (FW M)
def iq (M:Nat->Bool)(cls:List (List Int)):Bool:=cls.all (xr M)
def wfL (n:Nat)(l:Int):Bool:=decide (l≠0)&&decide (l.natAbs<=n)
def wfC (n:Nat)(c:List Int):Bool:=c.all (wfL n)
theorem Dd {M:Nat->Bool}{l:Int}(h:l≠0):FW M (-l)= !FW M l:=by
 grind [FW]
theorem yI {M:Nat->Bool}{c d:List Int}(h: ∀l,l∈c↔l∈d):xr M c=xr M d:=by
 grind [xr]
end Go.Av
end
section
namespace Go.Proofs.Tryz
open Go Go.Av
set_option maxRecDepth 10000
variable {W0 :World}
theorem Tq {α:Type}(enc:α->AV)(hp: ∀a,dd (enc a))(l:List α)(q:α->Bool)(g:FuncId)(caps:List AV)(σ:ab)(h: ∀a∈l,aP prog W0 g ([enc a]++caps) σ λr σ'=>r= .bool (q a)/\σ'=σ):
  aP prog W0 276 [.sl 190 (l.map enc),.fn g caps] σ λr σ'=>r= .int .i64 (iH q l)/\σ'=σ:=by
 refine l0 [4] [] func276 rfl rfl ntmps276 rfl rfl (.int _ _) λhs=>?_
 have hl:=(aQ (hs _ (acR ..))).1;simp only[go_sem,simprocAttr];refine ae.upto [0,1,7] (.of (by kernel_rfl)) l.length (λi A=>A.env 8= .int .i64 i/\A.st=σ/\ ∀a∈l.take i,q a=false) 0 (acP _) ?_ λi B hi ⟨h8,hst,hI⟩=>?_
 .simp only[go_sem,simprocAttr]
  all_goals simp
 simp only[go_sem,simprocAttr,h8,hst,acO];refine⟨λhc=>⟨hc,?_⟩,λhc=>bt.ret ?_⟩
 .obtain⟨a,ha⟩:=get_some hc;simp only[aw ha,cq (hp a),cY (hp a),true_and];refine aj.TY (by simp only[go_sem,simprocAttr,hst]) (h a (acT ha)) ?_;simp only[go_sem,simprocAttr,h8,hst];refine⟨λhq=>bt.ret ?_,λhq=>⟨hc,ah hc hl,?_⟩⟩
  .simp only[go_sem,simprocAttr,hst];exact az (fW ha hq hI).symm
  rw[ai ha];intro b hb;rcases acW.1 hb with hb|hb
  .exact hI b hb
  .rw[acX.1 hb];exact hq
 .simp only[go_sem,simprocAttr,hst];rw[dG (by rwa [acQ hc]at hI)];exact .refl _
theorem Td {α:Type}(enc:α->AV)(hp: ∀a,dd (enc a))(l:List α)(q:α->Bool)(g:FuncId)(caps:List AV)(σ:ab)(h: ∀a∈l,aP prog W0 g ([enc a]++caps) σ λr σ'=>r= .bool (q a)/\σ'=σ):
  aP prog W0 233 [.sl 190 (l.map enc),.fn g caps] σ λr σ'=>r= .bool (l.any q)/\σ'=σ:=by
 refine l0 [4] [] func233 rfl rfl ntmps233 rfl rfl (.bool _) λhs=>?_
 simp only[go_sem,simprocAttr];refine aj.reads (by simp only[go_sem,simprocAttr]) (Tq enc hp l q g caps σ h) ?_;simp only[go_sem,simprocAttr];refine bt.ret ?_;simp only[go_sem,simprocAttr];rw[jd];exact .refl _
theorem oz (l:Int)(h:l.natAbs<=9223372036854775807):ag prog W0 235 [.int .i64 l] (.int .u64 (l.natAbs:Nat)):=by
 refine an [2] [] func235 rfl rfl ntmps235 rfl rfl (.int _ _) λhs σ=>?_
 simp only[go_sem,simprocAttr];grind [az,IntKind.wrap_u64]
def fx (c:List Int):AV:=.sl 190 (c.map (.int .i64))
def Dn (l:List (List Int)):AV:=.sl 191 (l.map fx)
theorem dd.int64 (n:Int):dd (AV.int .i64 n):=trivial
theorem dd.lits (c:List Int):dd (fx c):=trivial
@[go_sem] theorem Sc (g:Option Bool)(l:List Int):okM g (fx l)=True:=eq_true trivial
@[go_sem] theorem RP (l:List Int):unm (fx l)=fx l:=rfl
@[go_sem] theorem Ns (P:Program)(t:TypeId)(l:List Int):bb P t (fx l)=cg P t:=rfl
def ve (n:Nat)(cv:AV):Option bK:=some (.cells 248 [.agg 248 [.int .i64 n,cv]])
theorem Nk (σ:ab)(id n:Nat)(cv:AV)(hid:σ[id]?=some (ve n cv))(hn:n<=9223372036854775807)(l:Int)(hl:l.natAbs<=9223372036854775807):
  aP prog W0 234 [.int .i64 l,.loc 185 (.ptr 248 id 0 [])] σ λr σ'=>r= .bool (!wfL n l)/\σ'=σ:=by
 refine l0 [3] [] func234 rfl rfl ntmps234 rfl rfl (.bool _) λhs=>?_
 simp only[go_sem,simprocAttr];refine⟨.of (by kernel_rfl),aB.fnG (λ_=>oz l hl) ?_⟩;simp only[go_sem,simprocAttr,ak hid];refine bt.ret ?_;simp only[go_sem,simprocAttr];grind [aq,IntKind.wrap_u64,wfL]
theorem Uf (σ:ab)(id n:Nat)(cv:AV)(cls:List (List Int))(hid:σ[id]?=some (ve n cv))(hb:Bld σ cv 191 (cls.map fx))(hn:n<=9223372036854775807)(hc5:cls.length<5000)(c:List Int)(hc: ∀l∈c,l.natAbs<=9223372036854775807):
  aP prog W0 193 [.ptr 248 id 0 [],fx c] σ λr σ'=>r= .bool (wfC n c)/\σ'=σ:=by
 refine l0 [4] [2] func193 rfl rfl ntmps193 rfl rfl (.bool _) λhs=>?_
 have h5:decide ((cls.length:Int)<5000)=true:=decide_eq_true (by omega);simp only[go_sem,simprocAttr,ak hid,hb.len,hb.fR,acO,h5];refine aB.st (λ_=>Td (.int .i64) dd.int64 c (λl=>!wfL n l) _ [.loc 185 (.ptr 248 id 0 [])] σ λl hl=>Nk σ id n cv hid hn l (hc l hl)) ?_;simp only[go_sem,simprocAttr];refine bt.ret ?_;simp only[go_sem,simprocAttr];grind [aq,wfC]
theorem Cq (σ:ab)(c:List Int)(h0:c≠[])(hl:c.length<=1048576):aP prog W0 236 [fx c] σ λr σ'=>r= .row 190 σ.length 0 c.length/\σ'=σ++[some (.cells 190 (c.map (.int .i64)))]:=by
 refine bY [2] [] func236 rfl rfl ntmps236 rfl rfl λhs=>?_
 cases c with
 |nil=>simp_all
 |cons x c=>
  simp only[go_sem,simprocAttr,fx];refine bA.row 1048576 (by kernel_rfl) (.inr (.inl rfl)) (.sl _ _ _) (by simp_all) (λh=>by cases h) λ_=>?_
  simp only[go_sem,simprocAttr];refine bt.ret ?_;simp only[go_sem,simprocAttr];exact⟨_,.refl _,by simp[cp],by simp,rfl⟩
def ints (ys:List Int):Option bK:=some (.cells 190 (ys.map (.int .i64)))
def XU (σ st:ab)(id:Nat)(xs:List Int):Prop:=∃ ys:List Int,ys.Perm xs/\st=σ.set id (ints ys)
def Bi (σ st:ab)(id:Nat)(xs:List Int):Prop:=(∃ys:List Int,ys.Perm xs/\st[id]?=some (ints ys))/\Fr [id] σ st
theorem Bi.of {σ st:ab}{id:Nat}{xs:List Int}(hid:id<σ.length)(h:XU σ st id xs):Bi σ st id xs:=by
 obtain⟨ys,hp,rfl⟩:=h;exact⟨⟨ys,hp,List.getElem?_set_self hid⟩,⟨by simp,λj hj hn=>List.getElem?_set_ne λe=>hn (by simp[e])⟩⟩
theorem Bi.step {σ τ st:ab}{id:Nat}{xs ys:List Int}(h1:Fr [id] σ τ)(hy:ys.Perm xs)(h2:Bi τ st id ys):Bi σ st id xs:=by
 obtain⟨⟨zs,hz,hs⟩,hf⟩:=h2;exact⟨⟨zs,hz.trans hy,hs⟩,⟨adu h1.len hf.len,λj hj hn=>by rw[hf.old j (adb hj h1.len) hn,h1.old j hj hn]⟩⟩
theorem Sz (σ:ab)(n:Nat)(hn:n<=200):aP prog W0 123 [.int .i64 n] σ λr σ'=>r= .ptr 248 σ.length 0 []/\σ'=σ++[ve n .ar]:=by
 refine bY [2] [] func123 rfl rfl ntmps123 rfl rfl λhs=>?_
 have e1:tV (n:Int) 200=n:=by grind [tV]
 have e2:CE 0 (n:Int)=n:=by grind [CE]
 simp only[go_sem,simprocAttr,e1,e2];refine bt.ret ?_;simp only[go_sem,simprocAttr];exact⟨_,.refl _,by simp,rfl,rfl⟩
end Go.Proofs.Tryz
end
section
namespace Go.Av
def zM (ord:List Int)(l:Int):Int:=if l∈ord then 1 else if-l∈ord then-1 else 0
structure dQ (n:Nat)(ord:List Int):Prop where
 nd:(ord.map Int.natAbs).Nodup
 wf: ∀l∈ord,l≠0/\l.natAbs<=n
theorem dQ.cons {n:Nat}{ord:List Int}(h:dQ n ord){l:Int}(hl:l∈ord): -l∉ord:=λhn=>by
 have h0:=(h.wf l hl).1;obtain⟨i,hi,he⟩:=adm hl;obtain⟨j,hj,he'⟩:=adm hn
 have:i=j:=(List.getElem_inj (i:=i) (j:=j) (h₀:=by simp_all) (h₁:=by simp_all) h.nd).1 (by simp_all);grind
theorem wA (ord:List Int)(l:Int):(zM ord l=1/\l∈ord)\/(zM ord l= -1/\l∉ord/\ -l∈ord)\/(zM ord l=0/\l∉ord/\ -l∉ord):=by
 grind [zM]
theorem dQ.nil (n:Nat):dQ n []:=⟨by simp,by simp⟩
theorem dQ.app {n:Nat}{ord:List Int}(h:dQ n ord){l:Int}(h0:l≠0)(hn:l.natAbs<=n)(hv:zM ord l=0):dQ n (ord++[l]):=by
 refine⟨?_,λm hm=>?_⟩
 .grind [dQ.nd,wA]
 .rcases acW.1 hm with h1|h1
  .exact h.wf m h1
  simp_all
theorem dQ.take {n:Nat}{ord:List Int}(h:dQ n ord)(k:Nat):dQ n (ord.take k):=⟨by grind [List.take_sublist,dQ.nd],λl hl=>h.wf l (List.mem_of_mem_take hl)⟩
theorem dQ.sub {n:Nat}{o p:List Int}(h:dQ n p)(hs:o.Sublist p):dQ n o:=⟨adG (hs.map _) h.nd,λl hl=>h.wf l (hs.subset hl)⟩
theorem BK : ∀(n:Nat) (l:List Nat),l.Nodup->(∀x∈l,x<n)->l.length<=n
 |0,l,_,h=>by
  cases l with
  |nil=>simp
  |cons x l=>exact absurd (h x (by simp)) (by omega)
 |n+1,l,hd,h=>by
  have:=BK n (l.erase n) (hd.erase n) λx hx=>by
   grind
  grind
theorem dQ.len {n:Nat}{ord:List Int}(h:dQ n ord):ord.length<=n:=by
 have:=BK (n+1) (0::ord.map Int.natAbs) (adh.2 ⟨λh0=>by
  obtain⟨l,hl,e⟩:=adv.1 h0;exact(h.wf l hl).1 (Int.natAbs_eq_zero.1 e),h.nd⟩) λx hx=>by
   rcases adg.1 hx with rfl|hx
   .omega
   .obtain⟨l,hl,rfl⟩:=adv.1 hx;have:=(h.wf l hl).2;omega
 simp_all
def Agr (M:Nat->Bool)(ord:List Int):Prop:=∀ l∈ord,FW M l=true
theorem Agr.neg {M:Nat->Bool}{n:Nat}{ord:List Int}(h:Agr M ord)(hg:dQ n ord){l:Int}(hv:zM ord l= -1):FW M l=false:=by
 rcases wA ord l with⟨h1,_⟩|⟨_,_,h2⟩|⟨h1,_⟩
 .omega
 .have h0:=(hg.wf _ h2).1;have:=h _ h2;grind [Dd]
 .omega
def QL (ord c:List Int):Bool:=!c.any λl=>decide (0<=zM ord l)
end Go.Av
end
section
namespace Go.Proofs.Tryz
open Go Go.Av
set_option maxRecDepth 10000
variable {W0 :World}
variable {σ :ab}{tid vid n:Nat}{cv ov lv:AV}{cls:List (List Int)}{ord:List Int}{lev:List Nat}
theorem dm.at {st:ab}{v:AV}{e:TypeId}{xs:List AV}{i:Nat}{x:AV}(h:dm st v e xs)(hx:xs[i]?=some x): ∃id off m zs,v= .row e id off m/\st[id]?=some (some (.cells e zs))/\m=xs.length/\zs[off+i]?=some x:=by
 rcases h with⟨_,rfl⟩|⟨id,off,m,zs,rfl,h1,h2,h3⟩
 .simp at hx
 grind
structure Own (τ:ab)(tid:Nat)(cv:AV)(vid:Nat)(ov lv:AV):Prop where
 tid:τ.length<=tid
 vid:τ.length<=vid
 cv: ∀j∈aN cv,τ.length<=j
 ov: ∀j∈aN ov,τ.length<=j
 lv: ∀j∈aN lv,τ.length<=j
end Go.Proofs.Tryz
end
section
namespace Go.Av
def Hy (ord:List Int)(stk:List (Nat×Int))(M:Nat->Bool):Prop:=∃ p∈stk,0<p.2/\Agr M (ord.take p.1)/\FW M p.2=true
def wh (n:Nat)(cls:List (List Int))(ord:List Int):Nat->List (Nat×Int)->Prop
 |lo,[]=>lo<=ord.length
 |lo,p::r=>lo<=p.1/\p.1<ord.length/\p.2≠0/\p.2.natAbs<=n/\zM (ord.take p.1) p.2=0/\cls.any (QL (ord.take p.1))=false/\wh n cls ord (p.1+1) r
theorem wh.app {n:Nat}{cls:List (List Int)}{ord:List Int}{k:Nat}{d:Int}{o2:List Int}: ∀{lo:Nat} {stk:List (Nat×Int)},wh n cls ord lo stk->(∀i,i<=ord.length->o2.take i=ord.take i)->k=ord.length->k<o2.length->d≠0->d.natAbs<=n->zM ord d=0->cls.any (QL ord)=false->wh n cls o2 lo (stk++[(k,d)])
 |lo,[],h,ho,hk,hk2,h0,hn,hv,hc=>by
  have e:o2.take k=ord:=by simp_all
  refine⟨by rw[hk];exact h,hk2,h0,hn,by simp_all,by simp_all,?_⟩;show k+1<=o2.length;omega
 |lo,p::r,⟨h1,h2,h3,h4,h5,h6,h7⟩,ho,hk,hk2,h0,hn,hv,hc=>⟨h1,by omega,h3,h4,by grind,by grind,h7.app ho hk hk2 h0 hn hv hc⟩
theorem wh.le {n:Nat}{cls:List (List Int)}{ord:List Int}: ∀{lo:Nat} {stk:List (Nat×Int)},wh n cls ord lo stk->lo+stk.length<=ord.length
 |lo,[],h=>by grind [wh]
 |lo,p::r,⟨h1,_,_,_,_,_,h7⟩=>by have:=h7.le;grind
theorem Hy.take {ord:List Int}{stk:List (Nat×Int)}{M:Nat->Bool}{k:Nat}(hk: ∀p∈stk,p.1<=k)(h:Hy ord stk M):Hy (ord.take k) stk M:=by
 obtain⟨p,h1,h2,h3,h4⟩:=h;exact⟨p,h1,h2,by grind,h4⟩
theorem Hy.more {ord o2:List Int}{stk:List (Nat×Int)}{M:Nat->Bool}(ho: ∀p∈stk,o2.take p.1=ord.take p.1)(h:Hy ord stk M)(q:List (Nat×Int)):Hy o2 (stk++q) M:=by
 obtain⟨p,h1,h2,h3,h4⟩:=h;exact⟨p,by simp[h1],h2,by grind,h4⟩
end Go.Av
end
section
namespace Go.Proofs.Tryz
open Go Go.Av
set_option maxRecDepth 10000
variable {W0 :World}
variable {τ σ:ab}{xid tid vid n:Nat}{cv ov lv dv:AV}{z:Int}{cls:List (List Int)}{ord dec asm:List Int}{lev lev0:List Nat}{stk:List (Nat×Int)}{base:Nat}
structure Q6 (n:Nat)(cls:List (List Int)):Prop where
 small:n<=200
 len:cls.length<=5000
 wf: ∀c∈cls,c≠[]/\c.length<=1048576/\ ∀l∈c,l≠0/\l.natAbs<=n
theorem Oi {n:Nat}{l:Int}:wfL n l=true↔l≠0/\l.natAbs<=n:=by simp[wfL]
end Go.Proofs.Tryz
end
section
namespace Go.Av
def fJ (i:Nat):Int:=((i+1:Nat):Int)
def jy (c:Clause):Nat->List Pkg->List Int
 |_,[]=>[]
 |i,q::r=>(if c.any (dO q)=true then [fJ i]else [])++jy c (i+1) r
def xA (all:List Pkg)(i:Nat)(c:Clause):List Int:=-fJ i::jy c 0 all
def zF (p:Pkg)(i:Nat):Nat->List Pkg->List (List Int)
 |_,[]=>[]
 |k,q::r=>(if (p.name==q.name||gJ p q)=true then [[-fJ i,-fJ k]]else [])++zF p i (k+1) r
def SN (all:List Pkg)(i:Nat)(p:Pkg):List (List Int):=(p.pre++p.dep).map (xA all i)++zF p i 0 (all.take i)
def tS (all:List Pkg):Nat->List Pkg->List (List Int)
 |_,[]=>[]
 |i,p::r=>SN all i p++tS all (i+1) r
theorem yH {c:Clause}: ∀{i:Nat} {l:List Pkg} {x:Int},x∈jy c i l-> ∃k q,l[k]?=some q/\x=fJ (i+k)
 |i,[],x,h=>by grind [jy]
 |i,q::r,x,h=>by
  rw[jy,acW]at h;rcases h with h|h
  .split at h
   .simp at h;exact⟨0,q,rfl,by omega⟩
   simp_all
  .obtain⟨k,q',h1,h2⟩:=yH h;exact⟨k+1,q',by simp_all,by grind⟩
theorem nW {c:Clause}: ∀(i:Nat) (l:List Pkg),(jy c i l).Nodup/\ ∀x∈jy c i l,fJ i<=x
 |i,[]=>by simp[jy]
 |i,q::r=>by
  obtain⟨h1,h2⟩:=nW (c:=c) (i+1) r;grind [jy,fJ]
theorem yx {c:Clause}: ∀(i:Nat) (l:List Pkg),(jy c i l).length<=l.length
 |i,[]=>by simp[jy]
 |i,q::r=>by
  have:=yx (c:=c) (i+1) r;grind [jy]
theorem xY {p:Pkg}{i:Nat}: ∀(l:List Pkg) (j k:Nat) (q:Pkg),l[k]?=some q->zF p i j (l.take (k+1))=zF p i j (l.take k)++(if (p.name==q.name||gJ p q)=true then [[-fJ i,-fJ (j+k)]]else [])
 |[],j,k,q,h=>by simp at h
 |p'::r,j,0,q,h=>by
  grind [zF]
 |p'::r,j,k+1,q,h=>by
  rw[ac0,ac0,zF,zF,xY r (j+1) k q (by simp_all),adw];grind
theorem zk (all:List Pkg): ∀(l:List Pkg) (j k:Nat) (p:Pkg),l[k]?=some p->tS all j (l.take (k+1))=tS all j (l.take k)++SN all (j+k) p
 |[],j,k,p,h=>by simp at h
 |q::r,j,0,p,h=>by
  grind [tS]
 |q::r,j,k+1,p,h=>by
  rw[ac0,ac0,tS,tS,zk all r (j+1) k p (by simp_all),adw];grind
theorem u7 (M:Nat->Bool)(a b:List (List Int)):iq M (a++b)=(iq M a&&iq M b):=by simp[iq]
theorem dH {all:List Pkg}(h:aZ all=0):all.length<=24:=by
 grind [aZ]
theorem iA : ∀{l:List Int},orL l=0-> ∀x∈l,x=0
 |[],_,x,hx=>by simp at hx
 |y::r,h,x,hx=>by
  rw[orL]at h;split at h
  .omega
  .rename_i hy;rcases adg.1 hx with rfl|hx
   .omega
   .exact iA h x hx
theorem dM {all:List Pkg}(h:aZ all=0){p:Pkg}(hp:p∈all):aS p=0:=by
 unfold aZ at h;split at h
 .omega
 .split at h
  .omega
  .rename_i h1;exact iA (adH.1 h1) _ (adv.2 ⟨p,hp,rfl⟩)
theorem I4 {l:List Clause}(h:cR l=0):l.length<=12:=by
 grind [cR]
theorem vV {p:Pkg}(h:aS p=0):p.pre.length<=12/\p.dep.length<=12:=by
 unfold aS at h;split at h
 .omega
 .have:=iA h;simp_all[I4]
theorem Co (i:Nat):0<fJ i:=by simp[fJ]
theorem Dk (i:Nat):(fJ i).natAbs=i+1:=by grind [fJ]
theorem OH {all:List Pkg}{i:Nat}(hi:i<all.length)(c:Clause):wfC all.length (xA all i c)=true/\(xA all i c).Nodup/\(xA all i c).length<=all.length+1:=by
 refine⟨List.all_eq_true.2 λl hl=>?_,?_,?_⟩
 .have:l≠0/\l.natAbs<=all.length:=by
   rcases adg.1 hl with rfl|hl
   .grind [Dk]
   grind [yH,Dk]
  grind [wfL]
 .refine adh.2 ⟨λh=>?_,(nW _ _).1⟩;have:=(nW (c:=c) 0 all).2 _ h;have:=Co i;have:=Co 0;omega
 simp[yx,xA]
theorem Nv {n i k:Nat}(hi:i<n)(hk:k<i):wfC n [-fJ i,-fJ k]=true/\[-fJ i,-fJ k].Nodup:=by
 grind [wfC,wfL,fJ]
structure dC (σ st:ab)(v:AV)(e:TypeId)(xs:List AV):Prop where
 row:(v= .ar/\xs=[])\/ ∃id,v= .row e id 0 xs.length/\st[id]?=some (some (.cells e xs))/\σ.length<=id
 ext:Ext σ st
theorem dC.nil {σ st:ab}(h:Ext σ st)(e:TypeId):dC σ st .ar e []:=⟨.inl ⟨rfl,rfl⟩,h⟩
theorem dC.st {σ st:ab}{v:AV}{e:TypeId}{xs:List AV}(h:dC σ st v e xs):dS st v e xs:=by
 rcases h.row with h|⟨id,rfl,h1,_⟩
 .exact .inl h
 .exact .inr (.inr ⟨id,0,_,xs,rfl,h1,by simp,by simp⟩)
theorem dC.more {σ st:ab}{v:AV}{e:TypeId}{xs:List AV}(h:dC σ st v e xs)(l:ab):dC σ (st++l) v e xs:=by
 refine⟨?_,h.ext.app l⟩;grind [dC.row]
theorem bA.out {P:Program}{A:aa}{σ:ab}{t u e:TypeId}{x y:AV}{xs ys:List AV}{dst:Option Nat}{k:aa->Prop}(N:Nat)(ho:xQ P t u e N=true)(h:dC σ A.st x e xs)(hy:eF A.st y e ys)(hN:xs.length+ys.length<=N)
  (hk: ∀v st',dC σ st' v e (xs++ys)->k ((A.put dst v).ax st')):bA P [t,u] [x,y] dst A k .mk:=by
 have hkl:(cp x A.st).length=A.st.length:=by unfold cp;grind
 refine bA.row N ho h.st hy hN (λhe=>hk _ _ (by simp_all)) λhe=>hk _ _ ⟨.inr ⟨A.st.length,by simp,?_,h.ext.le⟩,?_⟩
 .simp_all
 .refine Ext.app ?_ _;rcases h.row with⟨rfl,_⟩|⟨id,rfl,_,h3⟩
  .exact h.ext
  .exact h.ext.set h3 _
theorem dC.Oe {A:aa}{σ:ab}{v:AV}{e:TypeId}{xs:List AV}{d:Nat}{x:Exit}{R:aa->Prop}(h:dC σ A.st v e xs)(hd:A.env d=v)
  (h0:v= .ar->xs=[]->bt R x A) (h1: ∀id,bt R x ((A.upd d (.sl e xs)).ax (A.st.set id none))\/ ¬(σ.length<=id/\A.env d= .row e id 0 xs.length)):bt R x A:=by
 grind [dC.row,bt.frz]
end Go.Av
end
section
namespace Go.Proofs.Tryz
open Go Go.Av
set_option maxRecDepth 10000
variable {W0 :World}
structure Rep where
 name:List UInt8
 ver:List UInt8
 can:Bool
 acJ:List Nat
 never:List Nat
def nL (l:List Nat):AV:=.sl 3 (l.map λk=>.int .i64 (k:Nat))
end Go.Proofs.Tryz
end
section
namespace Go.Av
open Go
def eqK (P:Program)(ty:TypeId):Nat:=match P.underlying ty with|some (.int _)=>1|some .string=>2|some .bool=>3|_=>0
def pj (P:Program)(t:TypeId):Option (List Nat):=match P.underlying t with
 | some (.struct fl) => if fl.toList.all (fun f => f.name != "_") && (!P.stoodInHeld t && !P.eqGuardType P.depth t) then (bw P t).map fun ts => ts.map (eqK P) else none
 |_=>none
def vM :Nat->AV->AV->Option Bool
 |1,.int k a,.int k' b=>if k=k' then some (a==b)else none
 |2,.str a,.str b=>some (a==b)
 |3,.bool a,.bool b=>some (a==b)
 |_,_,_=>none
def rS :List Nat->List AV->List AV->Option Bool
 |[],[],[]=>some true
 |ty::ts,x::xs,y::ys=>(vM ty x y).bind λb=>(rS ts xs ys).map λc=>b&&c
 |_,_,_=>none
theorem Yb (P:Program)(ty:TypeId)(x y:AV):eq1 P ty x y=vM (eqK P ty) x y:=by
 unfold eq1 eqK;cases h:P.underlying ty with
 |none=>cases x<;>cases y<;>rfl
 |some u=>cases u<;>cases x<;>cases y<;>rfl
theorem FM (P:Program): ∀(ts:List TypeId) (xs ys:List AV),sG P ts xs ys=rS (ts.map (eqK P)) xs ys
 |[],[],[]=>rfl
 |[],[],_::_=>rfl
 |[],_::_,[]=>rfl
 |[],_::_,_::_=>rfl
 |_::_,[],[]=>rfl
 |_::_,[],_::_=>rfl
 |_::_,_::_,[]=>rfl
 |ty::ts,x::xs,y::ys=>by
  simp only[sG,adn,rS,Yb,FM P ts xs ys]
theorem lj {P:Program}{t:TypeId}{ks:List Nat}(h:pj P t=some ks)(fs gs:List AV):kR P t fs gs=rS ks fs gs:=by
 grind [pj,kR,bw,FM]
end Go.Av
end
section
namespace Go.Proofs.Tryz
open Go Go.Av
set_option maxRecDepth 10000
variable {W0 :World}
theorem dp {α:Type}{a b:List α}{i:Nat}{x:α}(h:a.take i=b.take i)(hx:a[i]?=some x)(hy:b[i]?=some x):a.take (i+1)=b.take (i+1):=by
 simp_all[ai]
theorem ga {α:Type}{a b:List α}{i:Nat}{x y:α}(hx:a[i]?=some x)(hy:b[i]?=some y)(h:x≠y):a≠b:=by
 grind
theorem vx :pj prog 76=some [2,1,2]:=by kernel_rfl
theorem wZ :pj prog 179=some [2,2]:=by kernel_rfl
@[go_sem] theorem XP (a b:Atom):cA prog .neq 76 (aW a) (aW b)= .bool (!decide (a=b)):=by
 obtain⟨a1,a2,a3⟩:=a;obtain⟨b1,b2,b3⟩:=b;simp only[aW,oY,lj vx,rS,vM,if_true,adC,ac5,ac2,Atom.mk.injEq,adE];congr 1;grind
@[go_sem] theorem Z9 (a b:Atom):cC prog .neq 76 (aW a) (aW b)=True:=by
 simp[aW,oS,lj vx,rS,vM]
@[go_sem] theorem YP (a b:iR):cA prog .neq 179 (dA a) (dA b)= .bool (!decide (a=b)):=by
 obtain⟨a1,a2⟩:=a;obtain⟨b1,b2⟩:=b;simp only[dA,oY,lj wZ,rS,vM,adC,ac5,ac2,iR.mk.injEq,adE];congr 1;grind
@[go_sem] theorem aan (a b:iR):cC prog .neq 179 (dA a) (dA b)=True:=by
 simp[dA,oS,lj wZ,rS,vM]
theorem mJ (a b:List Atom):ag prog W0 171 [aF a,aF b] (.bool (decide (a=b))):=by
 refine an [4] [] func171 rfl rfl ntmps171 rfl rfl (.bool _) λhs σ=>?_
 have hl:=(aQ (hs _ (acR ..))).1;simp only[go_sem,simprocAttr,aF,acO];refine⟨λh=>aq (decide_eq_false λe=>h (by rw[e])).symm,λh=>?_⟩;have hab:a.length=b.length:=by omega
 refine ae.upto [0,1,12] (.of (by kernel_rfl)) a.length (λi A=>A.env 13= .int .i64 i/\A.st=σ/\a.take i=b.take i) 0 (acP _) ?_ λi B hi ⟨h13,hst,hI⟩=>?_
 .simp only[go_sem,simprocAttr];simp
 simp only[go_sem,simprocAttr,h13,hst,acO];refine⟨λhc=>?_,λhc=>aq ?_⟩
 .obtain⟨x,hx⟩:=get_some hc;obtain⟨y,hy⟩:=get_some (show i<b.length by omega);simp only[go_sem,simprocAttr,h13,hst,acO,aw hx,aw hy];exact⟨.of (by kernel_rfl),hc,by omega,λhne=>aq (decide_eq_false (ga hx hy hne)).symm,λe=>⟨hc,ah hc hl,dp hI hx (e▸hy)⟩⟩
 .rw[acQ hc,acQ (by omega)]at hI;exact(decide_eq_true hI).symm
theorem tY (a b:List iR):ag prog W0 172 [ct a,ct b] (.bool (decide (a=b))):=by
 refine an [4] [] func172 rfl rfl ntmps172 rfl rfl (.bool _) λhs σ=>?_
 have hl:=(aQ (hs _ (acR ..))).1;simp only[go_sem,simprocAttr,ct,acO];refine⟨λh=>aq (decide_eq_false λe=>h (by rw[e])).symm,λh=>?_⟩;have hab:a.length=b.length:=by omega
 refine ae.upto [0,1,12] (.of (by kernel_rfl)) a.length (λi A=>A.env 13= .int .i64 i/\A.st=σ/\a.take i=b.take i) 0 (acP _) ?_ λi B hi ⟨h13,hst,hI⟩=>?_
 .simp only[go_sem,simprocAttr];simp
 simp only[go_sem,simprocAttr,h13,hst,acO];refine⟨λhc=>?_,λhc=>aq ?_⟩
 .obtain⟨x,hx⟩:=get_some hc;obtain⟨y,hy⟩:=get_some (show i<b.length by omega);simp only[go_sem,simprocAttr,h13,hst,acO,aw hx,aw hy];exact⟨.of (by kernel_rfl),hc,by omega,λhne=>aq (decide_eq_false (ga hx hy hne)).symm,λe=>⟨hc,ah hc hl,dp hI hx (e▸hy)⟩⟩
 .rw[acQ hc,acQ (by omega)]at hI;exact(decide_eq_true hI).symm
theorem kC (a b:List Clause):ag prog W0 170 [aA a,aA b] (.bool (decide (a=b))):=by
 refine an [4] [] func170 rfl rfl ntmps170 rfl rfl (.bool _) λhs σ=>?_
 have hl:=(aQ (hs _ (acR ..))).1;simp only[go_sem,simprocAttr,aA,acO];refine⟨λh=>aq (decide_eq_false λe=>h (by rw[e])).symm,λh=>?_⟩;have hab:a.length=b.length:=by omega
 refine ae.upto [0,1,12] (.of (by kernel_rfl)) a.length (λi A=>A.env 13= .int .i64 i/\A.st=σ/\a.take i=b.take i) 0 (acP _) ?_ λi B hi ⟨h13,hst,hI⟩=>?_
 .simp only[go_sem,simprocAttr];simp
 simp only[go_sem,simprocAttr,h13,hst,acO];refine⟨λhc=>?_,λhc=>aq ?_⟩
 .obtain⟨x,hx⟩:=get_some hc;obtain⟨y,hy⟩:=get_some (show i<b.length by omega);simp only[go_sem,simprocAttr,aw hx,aw hy];refine⟨.of (by kernel_rfl),hc,by omega,aB.fn (mJ x y) ?_⟩;simp only[go_sem,simprocAttr,h13,hst];grind [aq,ah,dp]
 grind
theorem PD (p q:Pkg):ag prog W0 102 [ay p,ay q] (.bool (decide (p=q))):=by
 refine an [4] [2,3] func102 rfl rfl ntmps102 rfl rfl (.bool _) λhs σ=>?_
 simp only[go_sem,simprocAttr,ay];refine aB.fnG (λ_=>kC _ _) ?_;simp only[go_sem,simprocAttr];refine aB.fnG (λ_=>kC _ _) ?_;simp only[go_sem,simprocAttr];refine aB.fnG (λ_=>kC _ _) ?_;simp only[go_sem,simprocAttr];refine aB.fnG (λ_=>mJ _ _) ?_;simp only[go_sem,simprocAttr];refine aB.fnG (λ_=>mJ _ _) ?_;simp only[go_sem,simprocAttr];refine aB.fnG (λ_=>tY _ _) ?_;simp only[go_sem,simprocAttr];refine aq ?_;obtain⟨a1,a2,a3,a4,a5,a6,a7,a8,a9⟩:=p;obtain⟨b1,b2,b3,b4,b5,b6,b7,b8,b9⟩:=q;grind
def atL (all:List Pkg)(t:List Nat):List Pkg:=t.filterMap λi=>all[i]?
def zA (p q:Pkg):Bool:=Op.bytesLess q.name p.name||(q.name==p.name&&decide (0<=cd q.ver p.ver))
def tZ (p:Pkg)(out:List Pkg):List Pkg:=out.takeWhile (zA p)++p::out.dropWhile (zA p)
def cS (l:List Pkg):List Pkg:=l.foldl (λo p=>tZ p o) []
theorem Ff {l:List Pkg}{i:Nat}{p:Pkg}(h:l[i]?=some p):cS (l.take (i+1))=tZ p (cS (l.take i)):=by
 simp_all[cS,ai]
theorem si (p:Pkg)(o:List Pkg):(tZ p o).Perm (p::o):=by
 grind [tZ,List.takeWhile_append_dropWhile]
theorem ej (l:List Pkg):(cS l).Perm l:=by
 have key: ∀(l o:List Pkg),(l.foldl (λo p=>tZ p o) o).Perm (o++l):=λl=>by
  induction l with
  |nil=>simp_all
  |cons p l ih=>
   grind [si]
 have h:=key l [];rw[List.nil_append]at h;exact h
theorem gP {α:Type}{f:α->Bool}: ∀{l:List α} {a:Nat},(∀k x,k<a->l[k]?=some x->f x=true)->(∀x,l[a]?=some x->f x=false)->l.takeWhile f=l.take a/\l.dropWhile f=l.drop a
 |[],a,_,_=>by simp
 |x::l,0,_,h=>by
  simp_all
 |x::l,a+1,h,h2=>by
  have hx:=h 0 x (by omega) rfl;obtain⟨e1,e2⟩:=gP (l:=l) (a:=a) (λk y hk hy=>h (k+1) y (by omega) (by simp_all)) (λy hy=>h2 y (by simp_all));simp_all
structure dC (σ st:ab)(v:AV)(e:TypeId)(xs:List AV):Prop where
 row:dm st v e xs
 ext:Ext σ st
 low: ∀j∈aN v,σ.length<=j
theorem dC.nF {σ st:ab}{v:AV}{e:TypeId}{xs:List AV}(h:dC σ st v e xs):ff σ st v e xs:=⟨h.row.st,h.ext,λid hid=>h.low id (by cases v<;>simp[QH]at hid;grind [aN])⟩
theorem dC.app {σ st st':ab}{x v:AV}{e:TypeId}{xs zs:List AV}(h:dC σ st x e xs)(ha:XY st x e zs v st'):dC σ st' v e zs:=⟨ha.row,ha.fr.tI h.ext h.low,λj hj=>by
 rcases ha.aN j hj with h1|h1
 .exact h.low j h1
 .exact adu h.ext.le h1⟩
theorem dC.nil {σ st:ab}(h:Ext σ st)(e:TypeId):dC σ st .ar e []:=⟨.inl ⟨rfl,rfl⟩,h,λj hj=>by grind [aN]⟩
theorem dC.more {σ st:ab}{v:AV}{e:TypeId}{xs:List AV}(h:dC σ st v e xs)(l:ab):dC σ (st++l) v e xs:=⟨h.row.keep λj hj=>by rw[ade (h.row.lt j hj)],h.ext.app l,h.low⟩
theorem Fz (l:List Pkg)(hl:l.length<=1024):ag prog W0 56 [aM l] (aM (cS l)):=by
 refine jE [2] [5,2000053,2000056,2000060,2000003] func56 rfl rfl ntmps56 rfl rfl (kf _) λhs σ=>?_
 have ht:elT prog 23=some 51:=by kernel_rfl
 simp only[go_sem,simprocAttr,aM];refine ae.at [7,8] (.of (by kernel_rfl)) (λA=>∃ v,A.env 3=v/\dC σ A.st v 51 ((cS l).map ay)) ?_ λB ⟨v,h3,hb⟩=>?_
 .refine ae.upto [7,8] (.of (by kernel_rfl)) l.length (λi A=>∃ v,A.env 3=v/\A.env 9= .int .i64 i/\dC σ A.st v 51 ((cS (l.take i)).map ay)) 0 (acP _) ?_ λi B hi ⟨v,h3,h9,hb⟩=>?_
  .simp only[go_sem,simprocAttr];exact⟨_,rfl,dC.nil (.refl _) _⟩
  have hok:=hb.nF.ok;have hun:=hb.nF.un;simp only[go_sem,simprocAttr,h3,h9,acO];refine⟨λhc=>?_,λhc=>?_⟩
  .obtain⟨p,hp⟩:=get_some hc;have ho:(cS (l.take i)).length<=1024:=by rw[(ej _).length_eq,List.length_take];omega
   obtain⟨o,hoo⟩: ∃o,o=cS (l.take i):=⟨_,rfl⟩;rw[<-hoo]at hb ho;have hb':=hb.more [none];have hlen:oh v= .int .i64 o.length:=by rw[hb.row.st.len,acO]
   have hlc:=λt=>hb.row.st.fR prog t
   simp only[go_sem,simprocAttr,aw hp,ay];refine⟨hc,ae.at [3,5,7,8,9] (.of (by kernel_rfl)) (λA=>∃ a:Nat,A.env 6= .int .i64 a/\a<=o.length/\A.st=B.st++[none]/\(∀k x,k<a->o[k]?=some x->zA p x=true)/\(∀x,o[a]?=some x->zA p x=false)) ?_ λC ⟨a,h6,hle,hst,hI,hJ⟩=>?_⟩
   .refine ae.upto [3,5,7,8,9] (.of (by kernel_rfl)) o.length (λa A=>A.env 6= .int .i64 a/\A.st=B.st++[none]/\(∀k x,k<a->o[k]?=some x->zA p x=true)) 0 (acP _) ?_ λa C hle ⟨h6,hst,hI⟩=>?_
    .simp only[go_sem,simprocAttr]
    by_cases hlt:a<o.length
    .obtain⟨q,hq⟩:=get_some hlt;have hok2:=hok;rcases hb'.row with⟨rfl,h0⟩|⟨id,off,m,zs,rfl,g1,g2,g3⟩
     .simp_all
     have hm:m=o.length:=by rw[<-dm.EF (σ:=B.st) (e:=51) (id:=id) g2 g3,acO]
     have hz:zs[off+a]?=some (ay q):=by
      have h1:((zs.drop off).take m)[a]?=some (ay q):=by grind
      simp_all
     have hk0:Av.look C.st id (off+a) [0]=some (.str q.name):=by
      rw[hst];unfold Av.look;rw[g1];simp only[hz,ac5];rfl
     have hk1:Av.look C.st id (off+a) [1]=some (.str q.ver):=by
      rw[hst];unfold Av.look;rw[g1];simp only[hz,ac5];rfl
     have hlv:live C.st id:=by grind [aO]
     simp only[go_sem,simprocAttr,h3,h6,hm,hk0,hk1,hlv,hlt];refine⟨.of (by kernel_rfl),aB.fnG (λ_=>uU q.ver p.ver) ?_⟩;simp only[go_sem,simprocAttr,h6,hlt];refine⟨λhb1=>⟨ah hlt (by grind [au]),hst,λk x hk hx=>?_⟩,λhb0=>⟨a,rfl,hle,hst,hI,λx hx=>?_⟩⟩
     .rcases ac1.1 hk with h|rfl
      .grind
      .rw[hq]at hx;cases hx;exact hb1
     .rw[hq]at hx;cases hx;exact hb0
    .simp only[go_sem,simprocAttr,h3,h6,hok,hun,hlen,hlc,hlt];refine⟨.of (by kernel_rfl),aB.fnG (r:=.int .i64 0) (λh=>(Bool.false_ne_true h).elim) ?_⟩;simp only[go_sem,simprocAttr,h6,hlt];grind
   have hrow:dm C.st v 51 (o.map ay):=by grind [dC.row]
   have hle':a<=(o.map ay).length:=by simp_all
   have hc1:=hrow.cut (acP a) hle';have hc2:=hrow.cut hle' (adk _);rw[acO]at hc2;have q1:=hc1.st.ok;have q2:=hc1.st.un;have q3:=hc2.st.ok;have q4:=hc2.st.un;simp only[go_sem,simprocAttr,h3,h6,hok,hun,hrow.YC,hrow.oP ht,hle,acO,q1,q2];refine⟨.of (by kernel_rfl),acP _,bA.Am (σ:=C.st) (by simp only[go_sem,simprocAttr]) 1048576 (by kernel_rfl) (.inl ⟨rfl,rfl⟩) hc1.st.read (by grind) λv1 σ1 ha1=>?_⟩;have q5:=ha1.row.st.ok;have q6:=ha1.row.st.un;simp only[go_sem,simprocAttr,q5,q6];refine bA.Am (σ:=σ1) (by simp only[go_sem,simprocAttr]) 1048576 (by kernel_rfl) ha1.row (.lit _ _ _) (by grind) λv2 σ2 ha2=>?_
   have q7:=ha2.row.st.ok;have q8:=ha2.row.st.un;have hk:dm σ2 (ub a o.length v) 51 _:=hc2.keep λj hj=>by
    rw[oT]at hj;have hj1:=hrow.lt j hj;have hj2:j∉aN v1:=λh=>by
     rcases ha1.aN j h with h|h
     .grind [aN]
     .omega
    rw[ha2.fr.old j (adb hj1 ha1.fr.len) hj2,ha1.fr.old j hj1 (by simp[aN])]
   simp only[go_sem,simprocAttr,q3,q4,q7,q8];refine bA.Am (σ:=σ2) (by simp only[go_sem,simprocAttr]) 1048576 (by kernel_rfl) ha2.row hk.st.read (by grind) λv3 σ3 ha3=>?_
   have q9:=ha3.row.st.ok;have q10:=ha3.row.st.un;simp only[go_sem,simprocAttr,h9];refine⟨hc,_,rfl,ah hc (by grind [au]),?_⟩;have hx:Ext σ C.st:=by grind [dC.ext]
   have hfin:=(((dC.nil hx 51).app ha1).app ha2).app ha3;rw[Ff hp,<-hoo,tZ,(gP hI hJ).1,(gP hI hJ).2];simp_all[ay,acQ]
  grind
 simp only[go_sem,simprocAttr,h3];exact ff.Oe (hb.nF) (.inl rfl) (by simp only[go_sem,simprocAttr])
def aR (all:List Pkg)(i:Nat):Nat:=match all[i]? with
 |some p=>i+((all.drop i).takeWhile λq=>q.name==p.name).length
 |none=>i
def gB (all:List Pkg):Nat->Nat->List Nat->List (List Nat)
 |0,_,t=>if kI (atL all t)=true then [t]else []
 |f+1,i,t=>if i=all.length then(if kI (atL all t)=true then [t]else [])else((List.range' i (aR all i-i)).flatMap λk=>gB all f (aR all i) (t++[k]))++gB all f (aR all i) t
theorem jZ (u v:AV):oK false u v=v:=by
 unfold oK oL;grind [vh]
inductive wM :List AV->List AV->Prop
 |nil:wM [] []
 |cons {x y:AV} {xs ys:List AV}:Sub x y->wM xs ys->wM (x::xs) (y::ys)
theorem wM.append {a b c d:List AV}(h:wM a b)(k:wM c d):wM (a++c) (b++d):=by
 induction h with
 |nil=>exact k
 |cons h1 _ ih=>exact .cons h1 ih
theorem wM.get {a b:List AV}(h:wM a b):a.length=b.length/\ ∀(i:Nat) (x y:AV),a[i]?=some x->b[i]?=some y->Sub x y:=by
 induction h with
 |nil=>simp_all
 |cons h1 _ ih=>
  grind
theorem wM.sl {a b:List AV}(h:wM a b)(e:TypeId):Sub (.sl e a) (.sl e b):=.sls h.get.1 h.get.2
theorem GR {α:Type}{f:α->Bool}: ∀{l:List α} {k:Nat},k<=(l.takeWhile f).length->(∀x,l[k]?=some x->f x=true->k<(l.takeWhile f).length)/\(∀x,l[k]?=some x->f x=false->k=(l.takeWhile f).length)/\(l.length<=k->k=(l.takeWhile f).length)
 |[],k,h=>by simp_all
 |a::l,k,h=>by
  cases hf:f a with
  |false=>
   simp_all
  |true=>
   simp[hf]at h ⊢;cases k with
   |zero=>simp[hf]
   |succ k=>
    obtain⟨h1,h2,h3⟩:=GR (f:=f) (l:=l) (k:=k) (by omega);grind
theorem nV {all:List Pkg}{i k:Nat}{p:Pkg}(hp:all[i]?=some p)(hk:k<=aR all i-i):
  (∀q,all[i+k]?=some q->q.name=p.name->k<aR all i-i)/\(∀q,all[i+k]?=some q-> ¬q.name=p.name->i+k=aR all i)/\(all.length<=i+k->i+k=aR all i):=by
 have hr:aR all i=i+((all.drop i).takeWhile λq=>q.name==p.name).length:=by grind [aR]
 rw[hr]at hk ⊢;rw[Nat.add_sub_cancel_left]at hk ⊢;obtain⟨h1,h2,h3⟩:=GR hk;grind
theorem eV {all:List Pkg}{i:Nat}{p:Pkg}(hp:all[i]?=some p):i<aR all i/\aR all i<=all.length:=by
 have h0:=(nV hp (acP _)).1 p hp rfl;grind [aR,List.takeWhile_sublist]
theorem room {d m:Nat}:(d+1)*2^m<=2^(d+m):=by
 rw[Nat.pow_add];exact Nat.mul_le_mul_right _ (Nat.lt_two_pow_self)
structure NOk (all:List Pkg)(N:Nat->Nat):Prop where
 one:1<=N all.length
 step: ∀i p,all[i]?=some p->(aR all i-i+1)*N (aR all i)<=N i
theorem NOk.two (all:List Pkg):NOk all λi=>2^(all.length-i):=⟨Nat.one_le_two_pow,λi p hp=>by
 obtain⟨b1,b2⟩:=eV hp;have hroom:=room (d:=aR all i-i) (m:=all.length-aR all i);grind⟩
def QX (all:List Pkg)(j:Nat):Option (List UInt8):=(all[j]?).map λp=>p.name
end Go.Proofs.Tryz
end
section
namespace Go.Av
structure F5 (all:List Pkg)(S:Nat->Bool):Prop where
 dep: ∀(i:Nat) (p:Pkg),all[i]?=some p->S i=true-> ∀c∈p.pre++p.dep,∃(k:Nat) (q:Pkg),all[k]?=some q/\c.any (dO q)=true/\S k=true
 con: ∀(i:Nat) (p:Pkg) (k:Nat) (q:Pkg),all[i]?=some p->all[k]?=some q->k<i->S i=true->S k=true->p.name≠q.name/\gJ p q=false
def wi (d:List Clause):Bool:=decide (d.length<=14)&&d.all λc=>decide (c.length<=10)
def td (i:Nat)(p:Pkg):Bool:=decide (i<26)&&decide (p.con.length+p.brk.length+p.eX.length<=40)&&[p.pre,p.dep,p.rcm].all wi
def jL :Nat->List Pkg->Bool
 |_,[]=>true
 |i,p::r=>td i p&&jL (i+1) r
theorem vJ : ∀{i:Nat} {l:List Pkg},jL i l=true-> ∀p∈l,p.con.length+p.brk.length+p.eX.length<=40
 |_,[],_,p,hp=>by simp at hp
 |i,q::r,h,p,hp=>by
  rw[jL,acY]at h;rcases adg.1 hp with rfl|hp
  .grind [td]
  .exact vJ h.2 p hp
def C9 {α β:Type}(f:α->β->Bool):List α->List β->Bool
 |[],[]=>true
 |x::xs,y::ys=>f x y&&C9 f xs ys
 |_,_=>false
theorem rV {α β:Type}{f:α->β->Bool}: ∀{xs:List α} {ys:List β},C9 f xs ys=true->xs.length=ys.length/\ ∀(i:Nat) (x:α) (y:β),xs[i]?=some x->ys[i]?=some y->f x y=true
 |[],[],_=>⟨rfl,by simp⟩
 |[],_::_,h=>by grind [C9]
 |_::_,[],h=>by grind [C9]
 |x::xs,y::ys,h=>by
  rw[C9,acY]at h;obtain⟨h1,h2⟩:=rV h.2;grind
def IE :Nat->AV->AV->Bool
 |0,_,_=>false
 |n+1,x,y=>match x,y with
  | .int k a,.int k' b=>decide (k=k')&&a==b
  | .bool a,.bool b=>a==b
  | .str a,.str b=>a==b
  | .nil,.nil=>true
  | .ar,.ar=>true
  | .ar,.sl _ []=>true
  | .sl e xs,.sl e' ys=>e==e'&&C9 (IE n) xs ys
  | .lit e xs,.sl e' ys=>e==e'&&C9 (IE n) xs ys
  | .agg t xs,.agg t' ys=>t==t'&&C9 (IE n) xs ys
  |_,_=>false
theorem kG : ∀{n:Nat} {x y:AV},IE n x y=true->Sub x y
 |0,_,_,h=>by grind [IE]
 |n+1,x,y,h=>by
  unfold IE at h;split at h
  .simp only[acY,decide_eq_true_eq,beq_iff_eq]at h;rw[h.1,h.2];exact .refl _
  .rw[beq_iff_eq.1 h];exact .refl _
  .rw[beq_iff_eq.1 h];exact .refl _
  .exact .refl _
  .exact .refl _
  .exact .ar _
  .rw[acY,beq_iff_eq]at h;obtain⟨rfl,h⟩:=h;obtain⟨h1,h2⟩:=rV h;exact .sls h1 λi x y hx hy=>kG (h2 i x y hx hy)
  .rw[acY,beq_iff_eq]at h;obtain⟨rfl,h⟩:=h;obtain⟨h1,h2⟩:=rV h;exact .trans (.lits h1 λi x y hx hy=>kG (h2 i x y hx hy)) (.lit _ _)
  .rw[acY,beq_iff_eq]at h;obtain⟨rfl,h⟩:=h;obtain⟨h1,h2⟩:=rV h;exact .agg h1 λi x y hx hy=>kG (h2 i x y hx hy)
  .cases h
def Tx (all:List Pkg)(i:Nat):Prop:=∃ S,F5 all S/\S i=true
def ach (all:List Pkg)(i j:Nat):Prop:=∃ S,F5 all S/\S i=true/\S j=true
def ab7 (all:List Pkg)(i j:Nat):Prop:=∃ S,F5 all S/\S i=true/\S j=false
structure nA (all:List Pkg)(i j:Nat):Prop where
 ne:i≠j
 can:Tx all i
 not: ¬ab7 all i j
structure uF (all:List Pkg)(i j:Nat):Prop where
 ne:i≠j
 can:Tx all i
 aau:Tx all j
 not: ¬ach all i j
theorem nA.sel {all:List Pkg}{i j:Nat}(h:nA all i j){S:Nat->Bool}(hS:F5 all S)(hi:S i=true):S j=true:=by
 cases hj:S j with
 |true=>rfl
 |false=>exact absurd ⟨S,hS,hi,hj⟩ h.not
theorem nA.trans {all:List Pkg}{i j k:Nat}(h:nA all i j)(h':nA all j k)(hk:k≠i):nA all i k:=
 ⟨λe=>hk e.symm,h.can,λ⟨_,hS,hi,hk⟩=>by grind [nA.sel]⟩
theorem nA.never {all:List Pkg}{i j k:Nat}(h:nA all i j)(h':uF all j k):uF all i k:=by
 refine⟨λe=>?_,h.can,h'.aau,λ⟨S,hS,hi,hk⟩=>h'.not ⟨S,hS,h.sel hS hi,hk⟩⟩;subst e;obtain⟨S,hS,hi⟩:=h.can;exact h'.not ⟨S,hS,h.sel hS hi,hi⟩
theorem uF.symm {all:List Pkg}{i j:Nat}(h:uF all i j):uF all j i:=
 ⟨λe=>h.ne e.symm,h.aau,h.can,λ⟨S,hS,hj,hi⟩=>h.not ⟨S,hS,hi,hj⟩⟩
theorem qq (p q:Pkg):gJ p q=gJ q p:=by
 grind [gJ]
theorem nX (a b:Int):sgn b a= -sgn a b:=by
 grind [sgn]
theorem sC (a b:List UInt8):cw a b=if rk a=0/\rk b=0 then 0 else if rk a=rk b then cw a.tail b.tail else sgn (rk a) (rk b):=by
 grind [lk,gR,dU]
theorem tK : ∀(n:Nat) (a b:List UInt8),a.length<=n->cw b a= -cw a b
 |0,a,b,h=>by
  grind [sC,rk,nX]
 |n+1,a,b,h=>by
  rw[sC b,sC a];by_cases h1:rk a=0/\rk b=0
  .omega
  .rw[if_neg h1,if_neg (λe=>h1 ⟨e.2,e.1⟩)];by_cases h2:rk a=rk b
   .have ha:rk a≠0:=λe=>h1 ⟨e,by omega⟩
    obtain⟨c,r,rfl,_⟩:=BU ha;rw[if_pos h2,if_pos h2.symm];exact tK n r b.tail (by simp_all)
   grind [nX]
theorem zr : ∀(a b:List UInt8),iF b a= -iF a b
 |[],b=>by cases b<;>rfl
 |x::a,[]=>rfl
 |x::a,y::b=>by
  unfold iF;by_cases h:x=y
  .rw[if_pos h,if_pos h.symm];exact zr a b
  grind [nX]
theorem vA {a b:List UInt8}(h: ¬(a=[]/\b=[])):br a b=if cw a b≠0 then cw a b
  else if bU (bc a)≠bU (bc b)then sgn (bU (bc a)) (bU (bc b))
  else if iF ((bc a).take (bU (bc a))) ((bc b).take (bU (bc b)))≠0 then iF ((bc a).take (bU (bc a))) ((bc b).take (bU (bc b)))
  else br ((bc a).drop (bU (bc a))) ((bc b).drop (bU (bc b))):=by
 grind [br]
theorem wC : ∀(n:Nat) (a b:List UInt8),a.length+b.length<=n->br b a= -br a b
 |0,a,b,h=>by
  simp_all[br]
 |n+1,a,b,h=>by
  by_cases h0:a=[]/\b=[]
  .grind [br]
  .have hlt:=xi h0;have ih:=wC n ((bc a).drop (bU (bc a))) ((bc b).drop (bU (bc b))) (by omega);rw[vA (a:=b) (b:=a) (λe=>h0 ⟨e.2,e.1⟩),vA h0,tK _ a b (adk _)];grind [zr,nX]
theorem pR (a b:List UInt8):br b a= -br a b:=wC _ a b (adk _)
theorem lp (a b:List UInt8):cd b a= -cd a b:=by
 unfold cd;rcases fC a with _|⟨e,u,r⟩
 .rcases fC b with _|⟨f,v,s⟩<;>rfl
 .rcases fC b with _|⟨f,v,s⟩
  .rfl
  .show(if br f e≠0 then br f e else if br v u≠0 then br v u else br s r)= -(if br e f≠0 then br e f else if br u v≠0 then br u v else br r s);rw[pR e f,pR u v,pR r s];by_cases h1:br e f=0
   .by_cases h2:br u v=0
    .simp[h1,h2]
    .rw[if_neg (show ¬(-br e f≠0) by omega),if_neg (show ¬(br e f≠0) by omega),if_pos (show-br u v≠0 by omega),if_pos h2]
   .rw[if_pos (show-br e f≠0 by omega),if_pos h1]
theorem qO (a b:List UInt8):bq b a=bq a b:=by
 grind [bq,lp]
theorem tp (p q:Pkg):dy p q=dy q p:=by
 grind [dy,qO]
theorem rU : ∀(l bef:List Pkg),pC bef l=false↔(∀p∈l,∀q∈bef,dy p q=false)/\l.Pairwise λx y=>dy y x=false
 |[],bef=>by simp[pC]
 |p::r,bef=>by
  rw[pC,ac7,rU r,adq,adz];grind
theorem iL : ∀(l:List Pkg) (acc:List (List UInt8)) (x:List UInt8),x∈dr l acc↔x∈acc\/ ∃p∈l,p.name=x
 |[],acc,x=>by simp[dr]
 |p::r,acc,x=>by
  rw[dr,iL r];grind
theorem ic : ∀(l:List Pkg) (acc:List (List UInt8)),acc.Nodup->(dr l acc).Nodup
 |[],acc,h=>h
 |p::r,acc,h=>by
  rw[dr];refine ic r _ ?_;grind
theorem ka {α:Type} [DecidableEq α]: ∀(l m:List α),l.Nodup->(∀x∈l,x∈m)->l.length<=m.length
 |[],_,_,_=>acP _
 |x::l,m,hn,h=>by
  rw[adh]at hn;have hx:=h x (by simp);have:=ka l (m.erase x) hn.2 λy hy=>by
   grind
  grind
theorem zU : ∀(l:List Int),orL l=0↔ ∀x∈l,x=0
 |[]=>by simp[orL]
 |y::r=>by
  constructor
  .exact iA
  .intro h;rw[orL,if_neg (by simp_all)];exact(zU r).2 λx hx=>h x (by simp[hx])
structure HL (l:List Pkg):Prop where
 may: ∀p∈l,aS p=0
 pair:l.Pairwise λp q=>p.name≠q.name/\gJ p q=false
 met: ∀p∈l,∀c∈p.pre++p.dep,∃q∈l,c.any (dO q)=true
theorem DF {c:Clause}{l:List Pkg}:sM c l=true↔ ∃q∈l,c.any (dO q)=true:=by
 grind [sM]
theorem Hi {l bef:List Pkg}{p:Pkg}:Kb l bef p=false↔aS p=0/\(∀q∈bef,q.name≠p.name/\gJ p q=false)/\ ∀c∈p.pre++p.dep,∃q∈l,c.any (dO q)=true:=by
 unfold Kb;grind [adz,DF]
theorem zn {l:List Pkg}: ∀(r bef:List Pkg),DJ l bef r=false↔(∀p∈r,aS p=0/\ ∀c∈p.pre++p.dep,∃q∈l,c.any (dO q)=true)/\(∀p∈r,∀q∈bef,q.name≠p.name/\gJ p q=false)/\r.Pairwise λq p=>q.name≠p.name/\gJ p q=false
 |[],bef=>by simp[DJ]
 |p::r,bef=>by
  rw[DJ,ac7,Hi,zn r,adq];grind
theorem CY {l:List Pkg}:kI l=true↔HL l:=by
 unfold kI;rw[adf,zn];constructor
 .rintro⟨h1,_,h3⟩;exact⟨λp hp=>(h1 p hp).1,h3.imp λ{a b} h=>⟨h.1,by grind [qq]⟩,λp hp=>(h1 p hp).2⟩
 .intro h;exact⟨λp hp=>⟨h.may p hp,h.met p hp⟩,by simp,h.pair.imp λ{a b} h=>⟨h.1,by grind [qq]⟩⟩
theorem HL.perm {l m:List Pkg}(h:HL l)(hp:l.Perm m):HL m:=
 ⟨λp hm=>h.may p (hp.symm.subset hm),hp.pairwise h.pair λ{a b} h=>⟨λe=>h.1 e.symm,by grind [qq]⟩,λp hm c hc=>by
  grind [HL.met]⟩
def pick (S:Nat->Bool):Nat->List Pkg->List Pkg
 |_,[]=>[]
 |i,p::r=>if S i=true then p::pick S (i+1) r else pick S (i+1) r
end Go.Av
end
section
namespace Go.Proofs.Tryz
open Go Go.Av
def QC (all:List Pkg)(S:Nat->Bool)(x:Clause):Prop:=∃ (m:Nat) (q:Pkg),all[m]?=some q/\x.any (dO q)=true/\S m=true
def Qz (all:List Pkg)(S:Nat->Bool)(i:Nat)(x:Atom):Prop:=∀ (m:Nat) (q:Pkg),all[m]?=some q->S m=true->m≠i->dO q x=false
structure S7 (all:List Pkg)(S:Nat->Bool)(c:Nat×Nat×Nat):Prop where
 pre:c.2.1=1-> ∀p x,all[c.1]?=some p->p.pre[c.2.2]?=some x->QC all S x
 dep:c.2.1=2-> ∀p x,all[c.1]?=some p->p.dep[c.2.2]?=some x->QC all S x
 con:c.2.1=3-> ∀p x,all[c.1]?=some p->p.con[c.2.2]?=some x->Qz all S c.1 x
 brk:c.2.1=4-> ∀p x,all[c.1]?=some p->p.brk[c.2.2]?=some x->Qz all S c.1 x
structure acL (all:List Pkg)(e:List (Nat×Nat×Nat))(S:Nat->Bool):Prop where
 name: ∀(a b:Nat) (p q:Pkg),all[a]?=some p->all[b]?=some q->a≠b->S a=true->S b=true->p.name≠q.name
 acH: ∀c∈e,S c.1=true->S7 all S c
def NU (all:List Pkg)(c:Nat×Nat×Nat):Clause:=match all[c.1]? with
 |some p=>(match c.2.1 with
  |1=>(p.pre[c.2.2]?).getD []
  |2=>(p.dep[c.2.2]?).getD []
  |3=>((p.con[c.2.2]?).map λx=>[x]).getD []
  |_=>((p.brk[c.2.2]?).map λx=>[x]).getD [])
 |none=>[]
def Zz (all:List Pkg)(cl:Clause)(m:Nat):Bool:=match all[m]? with
 |some q=>cl.any (dO q)
 |none=>false
def iT (all:List Pkg)(cl:Clause)(n:Nat):List Nat:=(List.range n).filter (Zz all cl)
def EE (all:List Pkg)(c:Nat×Nat×Nat):List Nat:=iT all (NU all c) all.length
structure acK (all:List Pkg)(e:List (Nat×Nat×Nat))(S:Nat->Bool):Prop where
 name: ∀i k,k<i->i<all.length->QX all k=QX all i->S i=true->S k=true->False
 con: ∀c∈e,(c.2.1=3\/c.2.1=4)-> ∀m∈EE all c,m≠c.1->S c.1=true->S m=true->False
 dep: ∀c∈e,(c.2.1=1\/c.2.1=2)->S c.1=true-> ∃m∈EE all c,S m=true
end Go.Proofs.Tryz
end
section
namespace Go.Proofs.Tryz
open Go Go.Av
set_option maxRecDepth 10000
variable {W0 :World}
theorem de {x y a b:AV}(h1:dc x y)(h2:dc a b):dc (.tup [x,a]) (.tup [y,b]):=.tup rfl λi u v hu hv=>by
 grind
end Go.Proofs.Tryz
end
