/- What the last text of this claim rests on. No conditions. -/
import Derived.Lib.Bytealg
import Derived.Test.YtbkobngljnnmgaaGreatDoorWad
import Derived.Test.YtbkobngljnnmgaaGreatDoorWaf
import Derived.Test.YtbkobngljnnmgaaGreatDoorWag
set_option linter.unusedSimpArgs false
set_option linter.unusedVariables false
open List renaming length_map->acG,mem_cons_self->acI,getElem?_eq_some_iff->acJ,take_of_length_le->acK,mem_of_getElem?->acL,drop_eq_getElem_cons->acM,drop_eq_nil_of_le->acN,mem_append->acO,mem_singleton->acP,dropWhile_cons->acR,take_succ_cons->acS,map_take->acU,getElem_map->acX,map_append->ac1,length_append->ac2,getElem?_append_left->ac4,mem_cons->ac6,nodup_cons->ac7,take_append_drop->ac8,take_eq_take_iff->ac9,takeWhile_cons->adb,getElem_of_mem->ade,map_cons->adf,getElem?_take->adg,pairwise_cons->adi,ext_getElem?->adk,map_map->adl,mem_map->adn,append_assoc->ado,any_eq_false->adp,any_append->adr,map_nil->adv
open Nat renaming zero_le->acH,lt_succ_iff_lt_or_eq->acT,mod_eq_of_lt->acW,lt_of_lt_of_le->ac3,le_refl->ada,lt_or_ge->adj,le_trans->adm
open Bool renaming and_eq_true->acQ,or_eq_false_iff->acZ,not_eq_true'->ac5,not_eq_false'->adh,eq_iff_iff->adq,false_or->adt,and_true->adu
open Option renaming getD_some->acV,bind_some->acY,map_some->ads
open UInt8 renaming toNat_inj->ac0
open List.Nodup renaming sublist->adw
open Classical renaming not_not->adz
section
namespace Go.Av
open Go
def fK {α:Type}(q:α->Bool)(l:List α):Int:=match l.findIdx? q with|some i=>i|none=>-1
theorem eQ {α:Type}{q:α->Bool}{l:List α}{i:Nat}{a:α}(h:l[i]?=some a)(hq:q a=true)(hn: ∀b∈l.take i,q b=false):fK q l=i:=by
 have:l.findIdx? q=some i:=by
  obtain⟨hi,he⟩:=acJ.1 h;refine List.findIdx?_eq_some_iff_getElem.2 ⟨hi,by simp_all,λj hj=>?_⟩;have:=hn l[j] (acL (i:=j) (by simp_all));simp_all
 grind [fK]
theorem dr {α:Type}{q:α->Bool}{l:List α}(hn: ∀b∈l,q b=false):fK q l= -1:=by
 grind [fK]
theorem jq {α:Type}{q:α->Bool}{l:List α}:decide (0<=fK q l)=l.any q:=by
 grind [fK]
theorem cK {σ:ab}{id:Nat}{te:TypeId}{xs:List AV}(h:id<σ.length)(i:Nat)(path:List Nat):look (σ.set id (some (.cells te xs))) id i path=(xs[i]?).bind (·.at path):=by simp[look,h]
theorem an {σ:ab}{id:Nat}{te:TypeId}{xs:List AV}(h:σ[id]?=some (some (.cells te xs)))(i:Nat)(path:List Nat):look σ id i path=(xs[i]?).bind (·.at path):=by simp[look,h]
theorem ey {σ:ab}{id:Nat}{te:TypeId}{xs:List AV}(h:id<σ.length)(i:Nat)(path:List Nat)(v:AV):dY (σ.set id (some (.cells te xs))) id i path v=σ.set id (some (.cells te (xs.set i ((xs[i]?.getD .undef).setAt path v)))):=by simp[dY,h]
theorem aC {σ:ab}{id:Nat}{te:TypeId}{xs:List AV}(h:σ[id]?=some (some (.cells te xs)))(i:Nat)(path:List Nat)(v:AV):dY σ id i path v=σ.set id (some (.cells te (xs.set i ((xs[i]?.getD .undef).setAt path v)))):=by simp[dY,h]
theorem fV {σ:ab}{id:Nat}{o:Option bJ}(h:σ[id]?=some o):σ.set id o=σ:=by
 grind [List.set_getElem_self]
@[go_sem] theorem YM (t:TypeId)(fs:List AV)(k:Nat)(r:List Nat)(v:AV):(AV.agg t fs).setAt (k::r) v= .agg t (fs.set k ((fs[k]?.getD .undef).setAt r v)):=by
 grind [AV.setAt,List.set_eq_of_length_le]
theorem aj.go {P:Program}{W0:World}{A:aa}{g:FuncId}{caps us:List AV}{dst:Option Nat}{k:aa->Prop}{Q:AV->ab->Prop}{σ:ab}(hσ:A.st=σ)(h:aS P W0 g (us++caps) σ Q)(hk: ∀r σ',Q r σ'->k ((A.put dst r).ay σ')):aj P W0 (.fn g caps) us dst A k .mk:=by
 subst hσ;exact h.mono hk
theorem aj.goes {P:Program}{W0:World}{A:aa}{g:FuncId}{us:List AV}{dst:Option Nat}{k:aa->Prop}{Q:AV->ab->Prop}{σ:ab}(hσ:A.st=σ)(h:aS P W0 g us σ Q)(hk: ∀r σ',Q r σ'->k ((A.put dst r).ay σ')):aj P W0 (.fn g []) us dst A k .mk:=.go hσ (by simp_all) hk
theorem aj.reads {P:Program}{W0:World}{A:aa}{g:FuncId}{us:List AV}{dst:Option Nat}{k:aa->Prop}{r:AV}{σ:ab}(hσ:A.st=σ)(h:aS P W0 g us σ λr' σ'=>r'=r/\σ'=σ)(hk:k (A.put dst r)):aj P W0 (.fn g []) us dst A k .mk:=.goes hσ h λr' σ' ⟨h1,h2⟩=>by
 grind [qm]
theorem WI (c:UInt8):IntKind.u8.wrap (c.toNat:Int)=c.toNat:=by
 have:=c.toNat_lt;show(c.toNat:Int) % 256=c.toNat;omega
theorem Jt {c:UInt8}(h:c.toNat<128):GC (c.toNat:Int)=[c]:=by
 have hv:Utf8.valid (c.toNat:Int)=true:=by
  simp only[Utf8.valid];simp;omega
 have e:Utf8.encode (c.toNat:Int)=⟨#[UInt8.ofNat c.toNat]⟩:=by
  unfold Utf8.encode;rw[if_pos hv,if_pos (by simpa using h)];simp
 rw[GC,e];simp
def iJ (a b:List UInt8):Int:=if Op.bytesLess a b=true then-1 else if a=b then 0 else 1
def orL :List Int->Int
 |[]=>0
 |x::r=>if x≠0 then x else orL r
theorem sb (s:List UInt8)(c:UInt8):Lib.indexByte s c=bD c s:=by
 induction s with
 |nil=>rfl
 |cons d r ih=>
  grind [Lib.indexByte,bD]
theorem J5 (s:List UInt8)(c:UInt8):decide (0<=bD c s)=s.contains c:=by
 grind [lO]
def UI (c:UInt8)(s:List UInt8):List UInt8:=if 0<=bD c s then s.take (bD c s).toNat else s
def VH (c:UInt8)(s:List UInt8):List UInt8:=if 0<=bD c s then s.drop ((bD c s).toNat+1)else []
def wE (c:UInt8)(s:List UInt8):AV:=.tup [.str (UI c s),.str (VH c s),.bool (decide (0<=bD c s))]
theorem AQ (c:UInt8)(s:List UInt8):aX 0 (wE c s):=by
 refine .tup λx hx=>?_
 simp at hx;rcases hx with rfl|rfl|rfl<;>first|exact .str _|exact .bool _
end Go.Av
end
section
namespace Go.Proofs.Tryz
open Go Go.Av
set_option maxRecDepth 10000
variable {W0 :World}
def aV (a:Atom):AV:=.agg 76 [.str a.name,.int .i64 a.rel,.str a.ver]
def aF (l:List Atom):AV:=.sl 76 (l.map aV)
def aA (l:List Clause):AV:=.sl 77 (l.map aF)
def dJ (p:jx):AV:=.agg 179 [.str p.name,.str p.ver]
def cG (l:List jx):AV:=.sl 179 (l.map dJ)
def ax (p:Pkg):AV:=.agg 51 [.str p.name,.str p.ver,aA p.pre,aA p.dep,aA p.rcm,aF p.con,aF p.brk,cG p.eN,.bool p.ess]
def aI (l:List Pkg):AV:=.sl 51 (l.map ax)
theorem K8 (s:List UInt8):ai prog W0 97 [.str s] (.bool (eT s)):=by
 refine ak [2] [] func97 rfl rfl ntmps97 rfl rfl (.bool _) λhs σ=>?_
 have hsl:s.length<=maxLen:=dI (hs _ (by simp));simp only[go_sem,simprocAttr];refine VC.upto [] s.length (λi A=>A.env 0= .str s/\A.env 6= .int .i64 s.length/\A.env 7= .int .i64 i/\A.st=σ/\ ∀j c,j<i->s[j]?=some c->nK j c=true) 0 (acH _) (.here ?_) λi A hi ⟨h0,h6,h7,hst,hI⟩=>?_
 .simp only[go_sem,simprocAttr]
  all_goals simp
 simp only[go_sem,simprocAttr,h0,h6,h7,hst];refine⟨λhc=>⟨hc,aj.fn (Ek _) ?_⟩,λhc=>?_⟩
 .obtain⟨c,hc'⟩:=get_some hc;simp only[go_sem,simprocAttr,hst,hc'];refine aD.fnG (λ_=>gA _) ?_;simp only[go_sem,simprocAttr,h7,hst];refine⟨λhb=>au ?_,λhb=>⟨hc,.here ?_⟩⟩
  .grind [nK,eT,pV]
  .simp only[go_sem,simprocAttr,h0,h6,hst];refine⟨ag hc hsl,λj d hj hd=>?_⟩;rcases acT.1 hj with hj|rfl
   .simp_all
   .have e:d=c:=by simp_all
    subst e
    revert hb
    unfold nK;cases jR d<;>cases bm d<;>simp
    omega
 grind [lx,au,eT]
theorem JE (rel:Int):(!(KI rel==[]))=(decide (1<=rel)&&decide (rel<=5)):=by
 grind [KI]
theorem yt (a:Atom):ai prog W0 113 [aV a] (.bool (cA a)):=by
 refine ak [2] [1] func113 rfl rfl ntmps113 rfl rfl (.bool _) λhs σ=>?_
 simp only[go_sem,simprocAttr,aV];refine aj.fn (K8 a.name) ?_;simp only[go_sem,simprocAttr];refine⟨λhn=>au (by grind [cA]),λhn=>⟨λh0=>au (by grind [cA]),λh0=>aj.fn (PO a.rel) ?_⟩⟩;simp only[go_sem,simprocAttr];refine aD.fnG (λ_=>vk a.ver) ?_;simp only[go_sem,simprocAttr];grind [au,cA,JE]
theorem se (c:UInt8):ai prog W0 230 [.int .u8 c.toNat] (.bool (bm c)):=by
 refine ak [2] [] func230 rfl rfl ntmps230 rfl rfl (.bool _) λ_ σ=>?_
 simp only[go_sem,simprocAttr];grind [au,bm]
theorem Ak (c:UInt8):ai prog W0 274 [.int .u8 c.toNat] (.bool (eP c)):=by
 refine ak [2] [] func274 rfl rfl ntmps274 rfl rfl (.bool _) λ_ σ=>?_
 simp only[go_sem,simprocAttr];grind [au,eP,jR]
theorem J6 (s:List UInt8):ai prog W0 228 [.str s] (.bool (decide (1<=s.length)&&decide (s.length<=9)&&s.all bm)):=by
 refine ak [2] [] func228 rfl rfl ntmps228 rfl rfl (.bool _) λhs σ=>?_
 simp only[go_sem,simprocAttr];refine⟨λh=>au ?_,λh=>?_⟩
 .grind
 have hl:1<=s.length/\s.length<=9:=by grind
 refine VC.cC [] (λk A=>∃ pos,A.env 13= .it σ.length/\A.st=σ++[some (.iter s pos)]/\k=s.length-pos/\pos<=s.length/\(s.take pos).all bm=true) s.length (.here ⟨0,?_⟩) λk A ⟨pos,h13,hst,hk,hp,hI⟩=>?_
 .simp only[go_sem,simprocAttr];simp_all
 simp only[go_sem,simprocAttr,h13,hst];refine⟨λhlt=>?_,λhge=>?_⟩
 .obtain⟨c,hc⟩:=get_some hlt;simp only[Bool.or_eq_true,acZ,decide_eq_true_eq,decide_eq_false_iff_not];have bad:bm c=false->(decide (1<=s.length)&&decide (s.length<=9)&&s.all bm)=false:=λhd=>by grind
  rcases adj c.toNat 128 with h8|h8
  .rw[oL hc h8];refine⟨λhb=>au (bad ?_).symm,λhb=>.here (s.length-(pos+1)) (by omega) ⟨pos+1,?_⟩⟩
   .grind [bm]
   .simp only[go_sem,simprocAttr,h13];grind [oR,bm]
  grind [tx,au,bm]
 grind [au]
theorem Uv {α:Type}(enc:α->AV)(hp: ∀a,dm (enc a))(l:List α)(q:α->Bool)(g:FuncId)(caps:List AV)(h: ∀a∈l,ai prog W0 g ([enc a]++caps) (.bool (q a))):
  ai prog W0 231 [.sl 76 (l.map enc),.fn g caps] (.int .i64 (fK q l)):=by
 refine ak [4] [] func231 rfl rfl ntmps231 rfl rfl (.int _ _) λhs σ=>?_
 have hl:=(aL (hs _ (acI ..))).1;simp only[go_sem,simprocAttr];refine ae.upto [0,1,7] l.length (λi A=>A.env 8= .int .i64 i/\A.st=σ/\ ∀a∈l.take i,q a=false) 0 (acH _) ?_ λi B hi ⟨h8,hst,hI⟩=>?_
 .simp only[go_sem,simprocAttr]
  all_goals simp
 simp only[go_sem,simprocAttr,h8,hst,acG];refine⟨λhc=>⟨hc,?_⟩,λhc=>az ?_⟩
 .obtain⟨a,ha⟩:=get_some hc;simp only[aw ha,ct (hp a),da (hp a),true_and];refine aj.pure (h a (acL ha)) ?_;simp only[go_sem,simprocAttr,h8,hst];refine⟨λhq=>az (eQ ha hq hI).symm,λhq=>⟨hc,ag hc hl,?_⟩⟩;rw[ah ha];intro b hb;rcases acO.1 hb with hb|hb
  .exact hI b hb
  .rw[acP.1 hb];exact hq
 .rw[dr]
  rwa [acK hc]at hI
theorem Y0 {α:Type}(enc:α->AV)(hp: ∀a,dm (enc a))(l:List α)(q:α->Bool)(g:FuncId)(caps:List AV)(h: ∀a∈l,ai prog W0 g ([enc a]++caps) (.bool (q a))):
  ai prog W0 280 [.sl 76 (l.map enc),.fn g caps] (.int .i64 (fK q l)):=by
 refine ak [4] [] func280 rfl rfl ntmps280 rfl rfl (.int _ _) λhs σ=>?_
 have hl:=(aL (hs _ (acI ..))).1;simp only[go_sem,simprocAttr];refine ae.upto [0,1,7] l.length (λi A=>A.env 8= .int .i64 i/\A.st=σ/\ ∀a∈l.take i,q a=false) 0 (acH _) ?_ λi B hi ⟨h8,hst,hI⟩=>?_
 .simp only[go_sem,simprocAttr]
  all_goals simp
 simp only[go_sem,simprocAttr,h8,hst,acG];refine⟨λhc=>⟨hc,?_⟩,λhc=>az ?_⟩
 .obtain⟨a,ha⟩:=get_some hc;simp only[aw ha,ct (hp a),da (hp a),true_and];refine aj.pure (h a (acL ha)) ?_;simp only[go_sem,simprocAttr,h8,hst];refine⟨λhq=>az (eQ ha hq hI).symm,λhq=>⟨hc,ag hc hl,?_⟩⟩;rw[ah ha];intro b hb;rcases acO.1 hb with hb|hb
  .exact hI b hb
  .rw[acP.1 hb];exact hq
 .rw[dr]
  rwa [acK hc]at hI
theorem Z5 {α:Type}(enc:α->AV)(hp: ∀a,dm (enc a))(l:List α)(q:α->Bool)(g:FuncId)(caps:List AV)(h: ∀a∈l,ai prog W0 g ([enc a]++caps) (.bool (q a))):
  ai prog W0 129 [.sl 51 (l.map enc),.fn g caps] (.int .i64 (fK q l)):=by
 refine ak [4] [] func129 rfl rfl ntmps129 rfl rfl (.int _ _) λhs σ=>?_
 have hl:=(aL (hs _ (acI ..))).1;simp only[go_sem,simprocAttr];refine ae.upto [0,1,7] l.length (λi A=>A.env 8= .int .i64 i/\A.st=σ/\ ∀a∈l.take i,q a=false) 0 (acH _) ?_ λi B hi ⟨h8,hst,hI⟩=>?_
 .simp only[go_sem,simprocAttr]
  all_goals simp
 simp only[go_sem,simprocAttr,h8,hst,acG];refine⟨λhc=>⟨hc,?_⟩,λhc=>az ?_⟩
 .obtain⟨a,ha⟩:=get_some hc;simp only[aw ha,ct (hp a),da (hp a),true_and];refine aj.pure (h a (acL ha)) ?_;simp only[go_sem,simprocAttr,h8,hst];refine⟨λhq=>az (eQ ha hq hI).symm,λhq=>⟨hc,ag hc hl,?_⟩⟩;rw[ah ha];intro b hb;rcases acO.1 hb with hb|hb
  .exact hI b hb
  .rw[acP.1 hb];exact hq
 .rw[dr]
  rwa [acK hc]at hI
theorem Xs {α:Type}(enc:α->AV)(hp: ∀a,dm (enc a))(l:List α)(q:α->Bool)(g:FuncId)(caps:List AV)(h: ∀a∈l,ai prog W0 g ([enc a]++caps) (.bool (q a))):
  ai prog W0 232 [.sl 179 (l.map enc),.fn g caps] (.int .i64 (fK q l)):=by
 refine ak [4] [] func232 rfl rfl ntmps232 rfl rfl (.int _ _) λhs σ=>?_
 have hl:=(aL (hs _ (acI ..))).1;simp only[go_sem,simprocAttr];refine ae.upto [0,1,7] l.length (λi A=>A.env 8= .int .i64 i/\A.st=σ/\ ∀a∈l.take i,q a=false) 0 (acH _) ?_ λi B hi ⟨h8,hst,hI⟩=>?_
 .simp only[go_sem,simprocAttr]
  all_goals simp
 simp only[go_sem,simprocAttr,h8,hst,acG];refine⟨λhc=>⟨hc,?_⟩,λhc=>az ?_⟩
 .obtain⟨a,ha⟩:=get_some hc;simp only[aw ha,ct (hp a),da (hp a),true_and];refine aj.pure (h a (acL ha)) ?_;simp only[go_sem,simprocAttr,h8,hst];refine⟨λhq=>az (eQ ha hq hI).symm,λhq=>⟨hc,ag hc hl,?_⟩⟩;rw[ah ha];intro b hb;rcases acO.1 hb with hb|hb
  .exact hI b hb
  .rw[acP.1 hb];exact hq
 .rw[dr]
  rwa [acK hc]at hI
theorem Sf {α:Type}(enc:α->AV)(hp: ∀a,dm (enc a))(l:List α)(q:α->Bool)(g:FuncId)(caps:List AV)(h: ∀a∈l,ai prog W0 g ([enc a]++caps) (.bool (q a))):
  ai prog W0 281 [.sl 77 (l.map enc),.fn g caps] (.int .i64 (fK q l)):=by
 refine ak [4] [] func281 rfl rfl ntmps281 rfl rfl (.int _ _) λhs σ=>?_
 have hl:=(aL (hs _ (acI ..))).1;simp only[go_sem,simprocAttr];refine ae.upto [0,1,7] l.length (λi A=>A.env 8= .int .i64 i/\A.st=σ/\ ∀a∈l.take i,q a=false) 0 (acH _) ?_ λi B hi ⟨h8,hst,hI⟩=>?_
 .simp only[go_sem,simprocAttr]
  all_goals simp
 simp only[go_sem,simprocAttr,h8,hst,acG];refine⟨λhc=>⟨hc,?_⟩,λhc=>az ?_⟩
 .obtain⟨a,ha⟩:=get_some hc;simp only[aw ha,ct (hp a),da (hp a),true_and];refine aj.pure (h a (acL ha)) ?_;simp only[go_sem,simprocAttr,h8,hst];refine⟨λhq=>az (eQ ha hq hI).symm,λhq=>⟨hc,ag hc hl,?_⟩⟩;rw[ah ha];intro b hb;rcases acO.1 hb with hb|hb
  .exact hI b hb
  .rw[acP.1 hb];exact hq
 .rw[dr]
  rwa [acK hc]at hI
theorem Dm {α:Type}(enc:α->AV)(hp: ∀a,dm (enc a))(l:List α)(q:α->Bool)(g:FuncId)(caps:List AV)(h: ∀a∈l,ai prog W0 g ([enc a]++caps) (.bool (q a))):
  ai prog W0 185 [.sl 76 (l.map enc),.fn g caps] (.bool (l.any q)):=by
 refine ak [4] [] func185 rfl rfl ntmps185 rfl rfl (.bool _) λhs σ=>?_
 simp only[go_sem,simprocAttr];refine aj.fn (Uv enc hp l q g caps h) ?_;simp only[go_sem,simprocAttr];exact au jq
theorem Sm {α:Type}(enc:α->AV)(hp: ∀a,dm (enc a))(l:List α)(q:α->Bool)(g:FuncId)(caps:List AV)(h: ∀a∈l,ai prog W0 g ([enc a]++caps) (.bool (q a))):
  ai prog W0 243 [.sl 76 (l.map enc),.fn g caps] (.bool (l.any q)):=by
 refine ak [4] [] func243 rfl rfl ntmps243 rfl rfl (.bool _) λhs σ=>?_
 simp only[go_sem,simprocAttr];refine aj.fn (Y0 enc hp l q g caps h) ?_;simp only[go_sem,simprocAttr];exact au jq
theorem Xj {α:Type}(enc:α->AV)(hp: ∀a,dm (enc a))(l:List α)(q:α->Bool)(g:FuncId)(caps:List AV)(h: ∀a∈l,ai prog W0 g ([enc a]++caps) (.bool (q a))):
  ai prog W0 75 [.sl 51 (l.map enc),.fn g caps] (.bool (l.any q)):=by
 refine ak [4] [] func75 rfl rfl ntmps75 rfl rfl (.bool _) λhs σ=>?_
 simp only[go_sem,simprocAttr];refine aj.fn (Z5 enc hp l q g caps h) ?_;simp only[go_sem,simprocAttr];exact au jq
theorem X0 {α:Type}(enc:α->AV)(hp: ∀a,dm (enc a))(l:List α)(q:α->Bool)(g:FuncId)(caps:List AV)(h: ∀a∈l,ai prog W0 g ([enc a]++caps) (.bool (q a))):
  ai prog W0 189 [.sl 179 (l.map enc),.fn g caps] (.bool (l.any q)):=by
 refine ak [4] [] func189 rfl rfl ntmps189 rfl rfl (.bool _) λhs σ=>?_
 simp only[go_sem,simprocAttr];refine aj.fn (Xs enc hp l q g caps h) ?_;simp only[go_sem,simprocAttr];exact au jq
theorem SU {α:Type}(enc:α->AV)(hp: ∀a,dm (enc a))(l:List α)(q:α->Bool)(g:FuncId)(caps:List AV)(h: ∀a∈l,ai prog W0 g ([enc a]++caps) (.bool (q a))):
  ai prog W0 244 [.sl 77 (l.map enc),.fn g caps] (.bool (l.any q)):=by
 refine ak [4] [] func244 rfl rfl ntmps244 rfl rfl (.bool _) λhs σ=>?_
 simp only[go_sem,simprocAttr];refine aj.fn (Sf enc hp l q g caps h) ?_;simp only[go_sem,simprocAttr];exact au jq
theorem XY (l:List (List UInt8))(s:List UInt8):ai prog W0 225 [.sl 9 (l.map .str),.str s] (.int .i64 (fK (λx=>s==x) l)):=by
 refine ak [4] [] func225 rfl rfl ntmps225 rfl rfl (.int _ _) λhs σ=>?_
 have hl:=(aL (hs _ (acI ..))).1;simp only[go_sem,simprocAttr];refine ae.upto [0,1,7] l.length (λi A=>A.env 8= .int .i64 i/\A.st=σ/\ ∀a∈l.take i,(s==a)=false) 0 (acH _) ?_ λi B hi ⟨h8,hst,hI⟩=>?_
 .simp only[go_sem,simprocAttr];simp_all
 simp only[go_sem,simprocAttr,h8,hst,acG];refine⟨λhc=>⟨hc,?_⟩,λhc=>az ?_⟩
 .obtain⟨a,ha⟩:=get_some hc;simp only[aw ha];simp only[go_sem,simprocAttr];refine⟨λhq=>az (eQ (q:=λx=>s==x) ha (by simp_all) hI).symm,λhq=>⟨hc,ag hc hl,?_⟩⟩;rw[ah ha];grind
 grind [dr]
theorem Ia (l:List (List UInt8))(s:List UInt8):ai prog W0 182 [.sl 9 (l.map .str),.str s] (.bool (l.any λx=>s==x)):=by
 refine ak [4] [] func182 rfl rfl ntmps182 rfl rfl (.bool _) λhs σ=>?_
 simp only[go_sem,simprocAttr];refine aj.fn (XY l s) ?_;simp only[go_sem,simprocAttr];exact au jq
theorem Tb (a:Int):ai prog W0 332 [.int .i64 a] (.bool false):=by
 refine ak [2] [] func332 rfl rfl ntmps332 rfl rfl (.bool _) λhs σ=>?_
 simp only[go_sem,simprocAttr];exact au (by simp)
theorem Qy (a b:Int):ai prog W0 297 [.int .i64 a,.int .i64 b] (.int .i64 (sgn a b)):=by
 refine ak [4] [] func297 rfl rfl ntmps297 rfl rfl (.int _ _) λhs σ=>?_
 simp only[go_sem,simprocAttr];refine aj.fn (Tb a) ?_;simp only[go_sem,simprocAttr];refine aj.fn (Tb b) ?_;simp only[go_sem,simprocAttr];refine⟨λh=>az (by simp[sgn,h]),λh=>⟨λh'=>az (by simp[sgn,h'];omega),λh'=>az (by rw[sgn,if_neg (by omega),if_neg (by omega)])⟩⟩
theorem Kn (s:List UInt8):ai prog W0 204 [.str s] (.bool false):=by
 refine ak [2] [] func204 rfl rfl ntmps204 rfl rfl (.bool _) λhs σ=>?_
 simp only[go_sem,simprocAttr]
theorem Dr (a b:List UInt8):ai prog W0 140 [.str a,.str b] (.int .i64 (iJ a b)):=by
 refine ak [4] [] func140 rfl rfl ntmps140 rfl rfl (.int _ _) λhs σ=>?_
 simp only[go_sem,simprocAttr];refine aj.fn (Kn a) ?_;simp only[go_sem,simprocAttr];refine aj.fn (Kn b) ?_;simp only[go_sem,simprocAttr];grind [az,iJ]
theorem Pw (l:List Int):ai prog W0 139 [.sl 3 (l.map (.int .i64))] (.int .i64 (orL l)):=by
 refine ak [2] [] func139 rfl rfl ntmps139 rfl rfl (.int _ _) λhs σ=>?_
 have hl:=(aL (hs _ (acI ..))).1;simp only[go_sem,simprocAttr];refine ae.upto [3,6,7] l.length (λi A=>A.env 8= .int .i64 i/\A.st=σ/\orL (l.drop i)=orL l) 0 (acH _) ?_ λi B hi ⟨h8,hst,hI⟩=>?_
 .simp only[go_sem,simprocAttr]
  all_goals simp
 simp only[go_sem,simprocAttr,h8,hst,acG];refine⟨λhc=>⟨hc,?_⟩,λhc=>az ?_⟩
 .obtain⟨a,ha⟩:=get_some hc;obtain⟨hlt,hae⟩:=acJ.1 ha;simp only[aw ha];simp only[go_sem,simprocAttr];grind [acM,az,orL,ag]
 .rw[acN hc]at hI;exact hI
theorem C6 (s:List UInt8)(c:UInt8):ai prog W0 358 [.str s,.int .u8 c.toNat] (.int .i64 (bD c s)):=by
 refine Xw (e:=Extern.BytealgIndexByte.indexByte) func358 (by kernel_rfl) (by kernel_rfl) (by kernel_rfl) (by kernel_rfl) λw C vs hl hv=>?_
 obtain⟨x,y,rfl⟩: ∃x y,vs=[x,y]:=by
  match vs,hl with
  |[x,y],_=>simp_all
 obtain⟨hx,_⟩:=(hv 0 _ x rfl rfl).gF;have hy:=(hv 1 _ y rfl rfl).cF;subst hx hy;refine⟨_,Lib.run_indexByteString _ _ w,?_⟩;have e:Lib.indexByte s (c.toNat:Int).toNat.toUInt8=bD c s:=by rw[show(c.toNat:Int).toNat.toUInt8=c by simp];simp[sb]
 rw[show(ByteArray.mk s.toArray).data.toList=s from rfl,e];exact .one rfl (.int _ _)
theorem Bg (s:List UInt8)(c:UInt8):ai prog W0 345 [.str s,.int .u8 c.toNat] (.int .i64 (bD c s)):=by
 refine ak [4] [] func345 rfl rfl ntmps345 rfl rfl (.int _ _) λhs σ=>?_
 simp only[go_sem,simprocAttr];refine aj.fn (C6 s c) ?_;simp only[go_sem,simprocAttr]
theorem Eu (s:List UInt8)(c:UInt8):ai prog W0 313 [.str s,.str [c]] (.int .i64 (bD c s)):=by
 refine ak [4] [] func313 rfl rfl ntmps313 rfl rfl (.int _ _) λhs σ=>?_
 simp only[go_sem,simprocAttr];refine⟨λh=>az (by grind [bD]),λh=>aj.fn (Bg s c) ?_⟩;simp only[go_sem,simprocAttr]
theorem Th (s:List UInt8)(c:UInt8):ai prog W0 314 [.str s,.str [c]] (.int .i64 (bD c s)):=by
 refine ak [4] [] func314 rfl rfl ntmps314 rfl rfl (.int _ _) λhs σ=>?_
 simp only[go_sem,simprocAttr];refine aj.fn (Eu s c) ?_;simp only[go_sem,simprocAttr]
theorem Gu (s:List UInt8)(c:UInt8):ai prog W0 275 [.str s,.str [c]] (.bool (s.contains c)):=by
 refine ak [4] [] func275 rfl rfl ntmps275 rfl rfl (.bool _) λhs σ=>?_
 simp only[go_sem,simprocAttr];refine aj.fn (Th s c) ?_;simp only[go_sem,simprocAttr];simp[au,J5]
theorem XF (s:List UInt8)(c:UInt8):ai prog W0 272 [.str s,.str [c]] (wE c s):=by
 refine ak [4,5,6] [] func272 rfl rfl ntmps272 rfl rfl (AQ c s) λhs σ=>?_
 have hl:s.length<=maxLen:=dI (hs _ (by simp));simp only[go_sem,simprocAttr];refine aj.fn (Eu s c) ?_;simp only[go_sem,simprocAttr];refine⟨λh=>?_,λh=>?_⟩
 .obtain⟨i,hi,hg,hlt⟩:=(lO c s).resolve_left (λe=>by omega);rw[hi];have hw:IntKind.i64.wrap ((i:Int)+1)=((i+1:Nat):Int):=jf hlt hl;simp only[go_sem,simprocAttr,hw];refine⟨.of (by kernel_rfl),by omega,by omega,?_⟩;rw[wE,UI,VH,hi,if_pos (by omega),if_pos (by omega),Int.toNat_natCast,decide_eq_true (by omega)];exact .refl _
 .have h:=h;simp at h;rw[wE,UI,VH,if_neg (by omega),if_neg (by omega),decide_eq_false (by omega)];exact .refl _
theorem YV (s:List UInt8)(c:UInt8):ai prog W0 226 [.str s,.str [c]] (wE c s):=by
 refine ak [4,5,6] [] func226 rfl rfl ntmps226 rfl rfl (AQ c s) λhs σ=>?_
 simp only[go_sem,simprocAttr];refine aj.fn (XF s c) ?_;simp only[go_sem,simprocAttr,wE]
theorem th (s:List UInt8)(c:UInt8):ai prog W0 273 [.str s,.int .u8 c.toNat] (.int .i64 (lastOf c s)):=by
 refine ak [4] [] func273 rfl rfl ntmps273 rfl rfl (.int _ _) λhs σ=>?_
 have hsl:s.length<=9223372036854775807:=dI (hs _ (by simp));simp only[go_sem,simprocAttr];refine ae.cC [0,1] (λk A=>A.env 5= .int .i64 ((k:Int)-1)/\A.st=σ/\k<=s.length/\lastOf c s=kC c s k) s.length ?_ λk B ⟨h5,hst,hk,hI⟩=>?_
 .simp only[go_sem,simprocAttr];exact⟨by grind [aG],rfl⟩
 simp only[go_sem,simprocAttr,h5,hst];refine⟨λhc=>?_,λhc=>?_⟩
 .obtain⟨k,rfl⟩: ∃j,k=j+1:=⟨k-1,by omega⟩;have e:(((k+1:Nat):Int)-1)=(k:Int):=by omega
  simp only[go_sem,simprocAttr,e];obtain⟨x,hx⟩:=get_some (show k<s.length by omega);simp only[hx,acV];refine⟨by omega,λh=>az ?_,λh=>.here k (by omega) ?_⟩
  .grind [kC]
  .simp only[go_sem,simprocAttr,hst];grind [aG,kC]
 .have:k=0:=by omega
  subst this;exact az (by rw[hI];rfl)
theorem sJ (s:List UInt8)(c:UInt8):ai prog W0 227 [.str s,.int .u8 c.toNat] (.int .i64 (lastOf c s)):=by
 refine ak [4] [] func227 rfl rfl ntmps227 rfl rfl (.int _ _) λhs σ=>?_
 simp only[go_sem,simprocAttr];refine aj.fn (th s c) ?_;simp only[go_sem,simprocAttr]
theorem uu (s:List UInt8)(c:UInt8):ai prog W0 361 [.str s,.int .u8 c.toNat] (.str (s.dropWhile (· ==c))):=by
 refine ak [4] [] func361 rfl rfl ntmps361 rfl rfl (.str _) λhs σ=>?_
 simp only[go_sem,simprocAttr];refine ae.cC [1] (λk A=>∃ x,A.env 0= .str x/\A.st=σ/\k=x.length/\x.dropWhile (· ==c)=s.dropWhile (· ==c)) s.length ⟨s,?_⟩ λk B ⟨x,h0,hst,hk,hI⟩=>?_
 .simp only[go_sem,simprocAttr]
 cases x with
 |nil=>
  simp only[go_sem,simprocAttr,h0,hst];exact oo hI
 |cons d r=>
  simp only[go_sem,simprocAttr,h0,hst];refine⟨λh=>.here r.length (by simp[hk]) ⟨r,?_⟩,λh=>oo ?_⟩
  .simp only[go_sem,simprocAttr,hst];grind [acR,ac0]
  grind [acR]
theorem FU (s:List UInt8)(c:UInt8)(hc:c.toNat<128):ai prog W0 352 [.str s,.str [c]] (.str (s.dropWhile (· ==c))):=by
 refine ak [4] [] func352 rfl rfl ntmps352 rfl rfl (.str _) λhs σ=>?_
 cases s with
 |nil=>simp only[go_sem,simprocAttr];exact .refl _
 |cons d r=>
  have hc':((c.toNat:Int)<128):=by omega
  simp only[go_sem,simprocAttr,hc'];refine aj.fn (uu (d::r) c) ?_;simp only[go_sem,simprocAttr]
end Go.Proofs.Tryz
end
section
namespace Go.Av
def K5 (c:UInt8):Int:=if c.toNat=126 then-1 else if eP c then c.toNat else c.toNat+256
def rkP :List UInt8->Int
 |[]=>0
 |c::_=>if bm c then 0 else K5 c
theorem Kg {c:UInt8}(h:eP c=true):65<=c.toNat/\c.toNat<=122:=by
 grind [eP,jR]
theorem tf (c:UInt8)(h:bm c=false):(rk [c]= -1/\rkP [c]= -1/\c.toNat=126)\/(rk [c]=1+c.toNat/\rkP [c]=c.toNat/\65<=c.toNat/\c.toNat<=122)\/(rk [c]=300+c.toNat/\rkP [c]=256+c.toNat/\True):=by
 grind [rk,rkP,xb,K5,Kg]
theorem Lk (a:List UInt8):(rk a=0/\rkP a=0)\/ ∃c r,a=c::r/\bm c=false/\rk a=rk [c]/\rkP a=rkP [c]:=by
 cases a with
 |nil=>exact .inl ⟨rfl,rfl⟩
 |cons c r=>
  grind [rk,rkP]
theorem Lm (a b:List UInt8):sgn (rkP a) (rkP b)=sgn (rk a) (rk b):=by
 have key:(rkP a<rkP b↔rk a<rk b)/\(rkP a>rkP b↔rk a>rk b):=by
  rcases Lk a with⟨a1,a2⟩|⟨c,r,_,hc,a1,a2⟩<;>rcases Lk b with⟨b1,b2⟩|⟨d,r',_,hd,b1,b2⟩
  .omega
  .grind [tf]
  .grind [tf]
  grind [tf]
 grind [sgn]
theorem DU {a b:Int}:sgn a b=0↔a=b:=⟨qG,λh=>by rw[h,rU]⟩
theorem IE (a b:List UInt8):rkP a=rkP b↔rk a=rk b:=by rw[<-DU,Lm,DU]
theorem xl (a:List UInt8):rkP a=0↔rk a=0:=IE a []
theorem GL {a:List UInt8}(h:rk a=0):bP a=a:=by
 cases a with
 |nil=>rfl
 |cons c r=>
  simp_all[bP,rk,TE]
theorem JL {a:List UInt8}(h:rk a≠0):bP a.tail=bP a:=by
 obtain⟨c,r,rfl,hd⟩:=FX h;simp[bP,hd]
def kP (s:List UInt8):List UInt8:=(s.takeWhile bm).dropWhile (· ==48)
def jz (s:List UInt8):List UInt8:=s.dropWhile bm
theorem UR :bm 48=true:=by decide
theorem pd (s:List UInt8):kP s=(gD s).take (bW (gD s))/\jz s=(gD s).drop (bW (gD s)):=by
 have key: ∀s:List UInt8,s.takeWhile bm=s.take (bW s)/\s.dropWhile bm=s.drop (bW s):=λs=>by
  induction s with
  |nil=>simp_all
  |cons c r ih=>
   grind [bW,adb,acR]
 induction s with
 |nil=>exact⟨rfl,rfl⟩
 |cons c r ih=>
  by_cases h0:c=48
  .subst h0;have e1:gD (48::r)=gD r:=by simp[gD]
   rw[e1,<-ih.1,<-ih.2];simp[kP,UR,jz]
  .have e1:gD (c::r)=c::r:=by simp[gD,h0]
   rw[e1,<-(key (c::r)).1,<-(key (c::r)).2];refine⟨?_,rfl⟩;unfold kP;cases h:bm c with
   |true=>simp[h,h0]
   |false=>simp[h]
theorem GF (s:List UInt8):(s.take (bW s)).length=bW s:=by
 simp[rb]
theorem E5 : ∀(a b:List UInt8),a.length=b.length->iJ a b=iN a b
 |[],[],_=>rfl
 |[],_::_,h=>by simp at h
 |_::_,[],h=>by simp at h
 |x::a,y::b,h=>by
  have ih:=E5 a b (by simp_all);unfold iN;grind [iJ,Op.bytesLess,ac0,UInt8.lt_iff_toNat_lt,sgn]
def M7 (x y:List UInt8):Int:=if (kP x).length≠(kP y).length then sgn (kP x).length (kP y).length else iJ (kP x) (kP y)
theorem E0 (s:List UInt8):(jz s).length<=s.length:=gj s
theorem qg {a b:List UInt8}(h: ¬(a=[]/\b=[])):bw a b=if cE a b≠0 then cE a b else if M7 (bP a) (bP b)≠0 then M7 (bP a) (bP b)else bw (jz (bP a)) (jz (bP b)):=by
 rw[bw,dif_neg h];split
 .rfl
 .have ha:=pd (bP a);have hb:=pd (bP b);have la:(kP (bP a)).length=bW (bf a):=by rw[ha.1];exact GF _
  have lb:(kP (bP b)).length=bW (bf b):=by rw[hb.1];exact GF _
  have e1:(bf a).take (bW (bf a))=kP (bP a):=ha.1.symm;have e2:(bf b).take (bW (bf b))=kP (bP b):=hb.1.symm;have e3:(bf a).drop (bW (bf a))=jz (bP a):=ha.2.symm;have e4:(bf b).drop (bW (bf b))=jz (bP b):=hb.2.symm;grind [M7,E5,qG]
theorem J3 {a b:List UInt8}(h: ¬(a=[]/\b=[])):(jz (bP a)).length+(jz (bP b)).length<a.length+b.length:=by
 rw[(pd (bP a)).2,(pd (bP b)).2];exact vu h
def gr :Option (List UInt8×List UInt8×List UInt8)->AV
 |none=>.tup [.str [],.str [],.str [],.int .i64 3]
 |some (e,u,r)=>.tup [.str e,.str u,.str r,.int .i64 0]
theorem Jv (v:Option (List UInt8×List UInt8×List UInt8)):aX 0 (gr v):=by
 cases v<;>refine .tup λx hx=>?_<;>simp at hx<;>rcases hx with rfl|rfl|rfl|rfl<;>first|exact .str _|exact .int _ _
def ofV (beside:List UInt8)(s:List UInt8):Bool:=s.all λc=>bm c||eP c||beside.contains c
theorem UZ (s:List UInt8):ofV [43,46,126] s=s.all ua:=by
 unfold ofV;congr 1;funext c;have h: ∀n:Nat,n<256->((c==(n.toUInt8))=((c.toNat:Int)==(n:Int))):=λn hn=>by
  rw[adq];simp only[beq_iff_eq];constructor
  .simp_all[acW]
  .intro e;apply ac0.1;simp[acW hn];omega
 have h1:=h 43 (by omega);have h2:=h 46 (by omega);have h3:=h 126 (by omega);grind [ua]
theorem YB (s:List UInt8):ofV [43,46,126,45,58] s=s.all DW:=by
 unfold ofV;congr 1;funext c;have h: ∀n:Nat,n<256->((c==(n.toUInt8))=((c.toNat:Int)==(n:Int))):=λn hn=>by
  rw[adq];simp only[beq_iff_eq];constructor
  .simp_all[acW]
  .intro e;apply ac0.1;simp[acW hn];omega
 have h1:=h 43 (by omega);have h2:=h 46 (by omega);have h3:=h 126 (by omega);have h4:=h 45 (by omega);have h5:=h 58 (by omega);grind [DW]
theorem US (s:List UInt8):fL s=if s.length=0\/48<s.length then none else
  (let et:=if 0<=bD 58 s then(s.take (bD 58 s).toNat,s.drop ((bD 58 s).toNat+1))else([48],s)
   match v7 et.2 with
   |none=>none
   |some (u,r)=>if (decide (1<=et.1.length)&&decide (et.1.length<=9)&&et.1.all bm)&&ofV [43,46,126] r&&ic u&&ofV [43,46,126,45,58] u then some (et.1,u,r)else none):=by
 rw[fL];split
 .rfl
 simp only[sG,UZ,YB];by_cases hf:0<=bD 58 s
 .grind
 grind [bm]
end Go.Av
end
section
namespace Go.Proofs.Tryz
open Go Go.Av
set_option maxRecDepth 10000
variable {W0 :World}
theorem Lh (s:List UInt8):ai prog W0 324 [.str s] (.int .i64 (rkP s)):=by
 refine ak [2] [] func324 rfl rfl ntmps324 rfl rfl (.int _ _) λhs σ=>?_
 cases s with
 |nil=>
  simp only[go_sem,simprocAttr];refine aD.fnG (λh=>by simp at h) (r:=.bool false) ?_;simp only[go_sem,simprocAttr];exact .refl _
 |cons c r=>
  have h8:=c.toNat_lt;simp only[go_sem,simprocAttr];refine aD.fnG (λ_=>se c) ?_;simp only[go_sem,simprocAttr];refine⟨λh=>az (by simp[rkP,h]),λh=>⟨λh'=>az ?_,λh'=>aj.fn (Ak c) ?_⟩⟩
  .grind [rkP,K5]
  simp only[go_sem,simprocAttr];grind [az,rkP,K5,aG]
theorem A7 (s:List UInt8):ai prog W0 325 [.str s] (.tup [.str (kP s),.str (jz s)]):=by
 refine ak [2,3] [] func325 rfl rfl ntmps325 rfl rfl (.tup (by intro x hx;simp at hx;rcases hx with rfl|rfl<;>exact .str _)) λhs σ=>?_
 have hsl:s.length<=maxLen:=dI (hs _ (by simp));simp only[go_sem,simprocAttr];refine ae.at [0] (λA=>∃ i:Nat,A.env 4= .int .i64 i/\A.st=σ/\i=bW s) ?_ λB ⟨i,h4,hst,hi⟩=>?_
 .refine ae.upto [0] s.length (λi A=>A.env 4= .int .i64 i/\A.st=σ/\ ∀c∈s.take i,bm c=true) 0 (acH _) ?_ λi B hi ⟨h4,hst,hI⟩=>?_
  .simp only[go_sem,simprocAttr];simp
  simp only[go_sem,simprocAttr,h4,hst];refine aD.fnG (λ_=>se _) ?_;simp only[go_sem,simprocAttr,h4,hst];refine⟨λh=>?_,λh=>⟨i,rfl,?_⟩⟩
  .obtain⟨c,hc,hd⟩:=Pj.1 h;have hlt:=(acJ.1 hc).1;refine⟨hlt,ag hlt hsl,λd hdm=>?_⟩;rw[ah hc]at hdm;grind
  grind [KP]
 simp only[go_sem,simprocAttr,h4];subst hi;have hle:=rb s;refine⟨.of (by kernel_rfl),⟨acH _,hle⟩,?_⟩;refine aD.fn (FU _ 48 (by decide)) ?_;simp only[go_sem,simprocAttr,h4,hst];refine⟨hle,?_⟩;have key: ∀s:List UInt8,s.takeWhile bm=s.take (bW s)/\s.dropWhile bm=s.drop (bW s):=λs=>by
  induction s with
  |nil=>simp_all
  |cons c r ih=>
   grind [bW,adb,acR]
 rw[kP,jz,(key s).1,(key s).2];exact .refl _
abbrev lS (x y:List UInt8):Option bJ:=some (.cells 329 [.agg 329 [.str x,.str y]])
theorem Sw (σ:ab)(id:Nat)(a b:List UInt8)(hid:σ[id]?=some (lS a b))(hal:a.length<=maxLen)(hbl:b.length<=maxLen):
  aS prog W0 283 [.ptr 329 id 0 []] σ λr σ'=>r= .int .i64 (cE a b)/\ ∃x y,σ'=σ.set id (lS x y)/\(cE a b=0->x=bP a/\y=bP b):=by
 have hidl:id<σ.length:=(acJ.1 hid).1;refine bZ [2] [] func283 rfl rfl ntmps283 rfl rfl λhs=>?_
 simp only[go_sem,simprocAttr];refine ae.cC [0] (λk A=>∃ x y,A.st=σ.set id (lS x y)/\k=x.length+y.length/\cE x y=cE a b/\bP x=bP a/\bP y=bP b/\x.length<=maxLen/\y.length<=maxLen) (a.length+b.length) ⟨a,b,?_,rfl,rfl,rfl,rfl,hal,hbl⟩ λk B ⟨x,y,hst,hk,hI,hx,hy,hxl,hyl⟩=>?_
 .simp only[go_sem,simprocAttr];grind [fV]
 simp only[go_sem,simprocAttr,hst,cK hidl];refine⟨.of (by kernel_rfl),aD.fn (Lh x) ?_⟩;simp only[go_sem,simprocAttr,hst,cK hidl];refine aD.fn (Lh y) ?_;simp only[go_sem,simprocAttr,hst,cK hidl];refine⟨λh=>aj.fn (Qy _ _) ?_,λh=>⟨λh0=>bz.ret ?_,λh0=>?_⟩⟩
 .simp only[go_sem,simprocAttr];refine bz.ret ?_;simp only[go_sem,simprocAttr,hst];have hne:rk x≠rk y:=λe=>h ((IE x y).2 e)
  refine⟨_,.refl _,by simp,by grind [ei,Lm],x,y,rfl,λh0=>?_⟩;grind [ei,qG]
 .simp only[go_sem,simprocAttr,hst];have hx0:=(xl x).1 h0;have hy0:rk y=0:=by grind [xl]
  refine⟨_,.refl _,by simp,by grind [lA],x,y,rfl,λ_=>⟨by grind [GL],by grind [GL]⟩⟩
 .have hx0:rk x≠0:=λe=>h0 ((xl x).2 e)
  have hxy:rk x=rk y:=(IE x y).1 h;have hy0:rk y≠0:=by omega
  obtain⟨c,r,rfl,hc⟩:=FX hx0;obtain⟨d,r',rfl,hd⟩:=FX hy0;simp only[go_sem,simprocAttr,cK hidl,ey hidl];refine⟨.of (by kernel_rfl),.here (r.length+r'.length) (by grind) ⟨r,r',?_⟩⟩;simp only[go_sem,simprocAttr];grind [gR,JL]
theorem JY (σ:ab)(id:Nat)(a b:List UInt8)(hid:σ[id]?=some (lS a b)):
  aS prog W0 284 [.ptr 329 id 0 []] σ λr σ'=>r= .int .i64 (M7 a b)/\σ'=σ.set id (lS (jz a) (jz b)):=by
 have hidl:id<σ.length:=(acJ.1 hid).1;refine bZ [2] [] func284 rfl rfl ntmps284 rfl rfl λhs=>?_
 simp only[go_sem,simprocAttr,an hid];refine aj.fn (A7 a) ?_;simp only[go_sem,simprocAttr,an hid];refine aj.fn (A7 b) ?_;simp only[go_sem,simprocAttr,an hid,aC hid,cK hidl,ey hidl];refine⟨λh=>aj.fn (Qy _ _) ?_,λh=>aj.fn (Dr _ _) ?_⟩
 .simp only[go_sem,simprocAttr];refine bz.ret ?_;simp only[go_sem,simprocAttr];exact⟨_,.refl _,by simp,by grind [M7]⟩
 .simp only[go_sem,simprocAttr];refine bz.ret ?_;simp only[go_sem,simprocAttr];exact⟨_,.refl _,by simp,by grind [M7]⟩
theorem C8 (a b:List UInt8):ai prog W0 249 [.str a,.str b] (.int .i64 (bw a b)):=by
 refine ak [4] [] func249 rfl rfl ntmps249 rfl rfl (.int _ _) λhs σ=>?_
 have hal:a.length<=maxLen:=dI (hs (.str a) (by simp));have hbl:b.length<=maxLen:=dI (hs (.str b) (by simp));simp only[go_sem,simprocAttr];refine ae.cC [5] (λk A=>∃ x y,A.st=σ++[lS x y]/\k=x.length+y.length/\bw x y=bw a b/\x.length<=maxLen/\y.length<=maxLen) (a.length+b.length) ⟨a,b,?_,rfl,rfl,hal,hbl⟩ λk B ⟨x,y,hst,hk,hI,hxl,hyl⟩=>?_
 .simp only[go_sem,simprocAttr]
 simp only[go_sem,simprocAttr,hst];refine⟨λh=>?_,λh=>?_⟩
 case refine_2=>
  grind [az,bw]
 have hne: ¬(x=[]/\y=[]):=λ⟨e,e'⟩=>by simp_all
 have hid:(σ++[lS x y])[σ.length]?=some (lS x y):=by simp
 refine aj.goes (by simp only[go_sem,simprocAttr,hst]) (Sw _ σ.length x y hid hxl hyl) λr σ' ⟨hr,x',y',hσ,hz⟩=>?_
 subst hr hσ;simp only[go_sem,simprocAttr];refine⟨λh1=>az ?_,λh1=>?_⟩
 .grind [qg]
 obtain⟨rfl,rfl⟩:=hz h1;have hid:(σ++[lS (bP x) (bP y)])[σ.length]?=some (lS (bP x) (bP y)):=by simp
 refine aj.goes (by simp only[go_sem,simprocAttr]) (JY _ σ.length _ _ hid) λr σ' ⟨hr,hσ⟩=>?_
 subst hr hσ;simp only[go_sem,simprocAttr];have l1:=E0 (bP x);have l2:=E0 (bP y);have l3:=gj (p:=λc=>!bm c) x;have l4:=gj (p:=λc=>!bm c) y;refine⟨λh2=>az ?_,λh2=>.here ((jz (bP x)).length+(jz (bP y)).length) (by simp_all[J3]) ⟨jz (bP x),jz (bP y),?_⟩⟩
 .grind [qg]
 .simp only[go_sem,simprocAttr];grind [bP,qg]
theorem Xe (beside s:List UInt8)(hbs: ∀c∈beside,c.toNat<=126):ai prog W0 229 [.str s,.str beside] (.bool (ofV beside s)):=by
 refine ak [4] [] func229 rfl rfl ntmps229 rfl rfl (.bool _) λhs σ=>?_
 simp only[go_sem,simprocAttr];refine ae.cC [1,8] (λk A=>∃ pos,A.st=σ++[some (.iter s pos)]/\k=s.length-pos/\pos<=s.length/\ofV beside (s.take pos)=true) s.length ⟨0,?_⟩ λk B ⟨pos,hst,hk,hp,hI⟩=>?_
 .simp only[go_sem,simprocAttr];simp[ofV]
 simp only[go_sem,simprocAttr,hst];refine⟨λhlt=>?_,λhge=>?_⟩
 .obtain⟨c,hc⟩:=get_some hlt;have bad:(bm c||eP c||beside.contains c)=false->ofV beside s=false:=λhd=>by
   grind [ofV]
  rcases adj c.toNat 128 with h8|h8
  .rw[oL hc h8];have hcv:=WI c;have hce:=Jt h8;simp only[go_sem,simprocAttr,hcv];refine aD.fnG (λ_=>se c) ?_;simp only[go_sem,simprocAttr,hcv];refine aD.fnG (λ_=>Ak c) ?_;simp only[go_sem,simprocAttr,hce];refine aD.fnG (λ_=>Gu beside c) ?_;simp only[go_sem,simprocAttr];refine⟨λhb=>au ?_,λhb=>.here (s.length-(pos+1)) (by omega) ⟨pos+1,?_⟩⟩
   .grind [bm,eP,jR]
   .simp only[go_sem,simprocAttr];refine⟨by omega,oR hI hc ?_⟩;grind
  .have:=tx hc h8;have hd:decide ((126:Int)<((iR s pos).1:Int))=true:=decide_eq_true (by omega);simp only[go_sem,simprocAttr,hd];refine aD.fnG (λh=>by simp at h) (r:=.bool false) ?_;simp only[go_sem,simprocAttr];refine aD.fnG (λh=>by simp at h) (r:=.bool false) ?_;simp only[go_sem,simprocAttr];refine aD.fnG (λh=>by simp at h) (r:=.bool false) ?_;simp only[go_sem,simprocAttr];grind [au,bm,eP,jR]
 grind [au]
theorem kQ (s:List UInt8):ai prog W0 184 [.str s] (gr (fL s)):=by
 refine ak [2,3,4,5] [] func184 rfl rfl ntmps184 rfl rfl (Jv _) λhs σ=>?_
 have hsl:s.length<=maxLen:=dI (hs _ (by simp));have none_end:fL s=none->dq (AV.tup [.str [],.str [],.str [],.int .i64 3]) (gr (fL s)):=λe=>by rw[e];exact .refl _
 simp only[go_sem,simprocAttr];refine⟨λh=>none_end ?_,λh=>?_⟩
 .grind [fL]
 have hlen: ¬(s.length=0\/48<s.length):=by
  grind
 refine aj.fn (YV s 58) ?_;simp only[go_sem,simprocAttr,wE];have hv: ∀e t:List UInt8,(e,t)=(if 0<=bD 58 s then(s.take (bD 58 s).toNat,s.drop ((bD 58 s).toNat+1))else([48],s))->fL s=(match v7 t with
   |none=>none
   |some (u,r)=>if (decide (1<=e.length)&&decide (e.length<=9)&&e.all bm)&&ofV [43,46,126] r&&ic u&&ofV [43,46,126,45,58] u then some (e,u,r)else none):=λe t he=>by
  grind [US]
 refine cm.at [4] (by kernel_rfl) (λA=>∃ e t,A.env 2= .str e/\A.env 6= .str t/\A.st=σ/\t.length<=s.length/\(e,t)=(if 0<=bD 58 s then(s.take (bD 58 s).toNat,s.drop ((bD 58 s).toNat+1))else([48],s))) (λhf=>?_) (λhf=>?_) λB ⟨e,t,h2,h6,hst,htl,het⟩=>?_
 .have hf:0<=bD 58 s:=by simp_all
  simp only[go_sem,simprocAttr];grind [VH,UI]
 .have hf: ¬0<=bD 58 s:=by simp_all
  simp only[go_sem,simprocAttr];grind
 have hv:=hv e t het;simp only[go_sem,simprocAttr,h6];refine aj.fn (sJ t 45) ?_;simp only[go_sem,simprocAttr];refine cm.at [] (by kernel_rfl) (λA=>∃ u r,v7 t=some (u,r)/\A.env 2= .str e/\A.env 3= .str u/\A.env 4= .str r/\A.st=σ) (λhf=>?_) (λhf=>?_) λB ⟨u,r,hrv,h2,h3,h4,hst⟩=>?_
 .obtain⟨i,hi,hgi,hlt⟩:=(qM 45 t).resolve_left (λe=>by simp_all);rw[hi];have hw:IntKind.i64.wrap ((i:Int)+1)=((i+1:Nat):Int):=jf hlt (by omega);have hrv:v7 t=if t.drop (i+1)=[]then none else some (t.take i,t.drop (i+1)):=by
   simp_all[v7]
  simp only[go_sem,simprocAttr,hw,h2,h6,hst];refine⟨.of (by kernel_rfl),by omega,by omega,λhb=>none_end (by simp_all),λhb=>⟨t.take i,t.drop (i+1),?_⟩⟩;simp_all
 .have hf': ¬(0<=lastOf 45 t):=by simp_all
  simp only[go_sem,simprocAttr,h2,hst];grind [v7]
 rw[hrv]at hv;simp only at hv;simp only[go_sem,simprocAttr,h2];refine aj.fn (J6 e) ?_;simp only[go_sem,simprocAttr,h4,hst];refine aD.fnG (λ_=>Xe [43,46,126] r (by decide)) ?_;simp only[go_sem,simprocAttr,h3,hst];have fin: ∀b:Bool,b=(!((decide (1<=e.length)&&decide (e.length<=9)&&e.all bm)&&ofV [43,46,126] r&&ic u&&ofV [43,46,126,45,58] u))->(b=true->fL s=none)/\(b=false->fL s=some (e,u,r)):=λb hb=>by
  grind
 cases u with
 |nil=>
  simp only[go_sem,simprocAttr];refine aD.fnG (λh=>by simp at h) (r:=.bool false) ?_;simp only[go_sem,simprocAttr,h3,hst];refine aD.fnG (λh=>by simp at h) (r:=.bool false) ?_;simp only[go_sem,simprocAttr,h2,h3,h4,hst];grind [ic]
 |cons c u'=>
  simp only[go_sem,simprocAttr];refine aD.fnG (λ_=>se c) ?_;simp only[go_sem,simprocAttr,h3,hst];refine aD.fnG (λ_=>Xe [43,46,126,45,58] (c::u') (by decide)) ?_;simp only[go_sem,simprocAttr,h2,h3,h4,hst];refine⟨λh=>none_end ((fin _ ?_).1 h),λh=>?_⟩
  .grind [ic]
  .rw[(fin _ (by
    grind [ic])).2 h]
   exact .refl _
def rA (a b:List UInt8):AV:=.tup [.int .i64 (bO a b),.bool (bI a&&bI b)]
theorem Nw (a b:List UInt8):aX 0 (rA a b):=by
 refine .tup λx hx=>?_
 simp at hx;rcases hx with rfl|rfl
 .exact .int _ _
 .exact .bool _
theorem qk (a b:List UInt8):ai prog W0 205 [.str a,.str b] (rA a b):=by
 refine ak [4,5] [] func205 rfl rfl ntmps205 rfl rfl (Nw _ _) λhs σ=>?_
 simp only[go_sem,simprocAttr];refine aj.fn (kQ a) ?_;cases h:fL a with
 |none=>
  simp only[go_sem,simprocAttr,gr];refine aj.fn (kQ b) ?_;cases h':fL b with
  |none=>simp only[go_sem,simprocAttr,gr];simp only[rA,bO,bI,h,h'];exact .refl _
  |some v=>obtain⟨f,v,t⟩:=v;simp only[go_sem,simprocAttr,gr];simp only[rA,bO,bI,h,h'];exact .refl _
 |some v=>
  obtain⟨e,u,r⟩:=v;simp only[go_sem,simprocAttr,gr];refine aj.fn (kQ b) ?_;cases h':fL b with
  |none=>simp only[go_sem,simprocAttr,gr];simp only[rA,bO,bI,h,h'];exact .refl _
  |some v=>
   obtain⟨f,v,t⟩:=v;simp only[go_sem,simprocAttr,gr];refine aj.fn (C8 e f) ?_;simp only[go_sem,simprocAttr];refine aj.fn (C8 u v) ?_;simp only[go_sem,simprocAttr];refine aj.fn (C8 r t) ?_;simp only[go_sem,simprocAttr];refine⟨by decide,aj.fn ((Pw [bw e f,bw u v,bw r t]).cb (.cons (.lit _ _) .nil)) ?_⟩;simp only[go_sem,simprocAttr]
   have:orL [bw e f,bw u v,bw r t]=bO a b:=by
    grind [bO,orL]
   rw[this,rA];simp only[bI,h,h'];exact .refl _
theorem np (a b:List UInt8):ai prog W0 147 [.str a,.str b] (.bool (bb a b)):=by
 refine ak [4] [] func147 rfl rfl ntmps147 rfl rfl (.bool _) λhs σ=>?_
 simp only[go_sem,simprocAttr];refine aj.fn (qk a b) ?_;simp only[go_sem,simprocAttr,rA];simp[au,bb]
theorem EL (rel:Int)(a b:List UInt8):ai prog W0 188 [.int .i64 rel,.str a,.str b] (.bool (fT rel a b)):=by
 refine ak [6] [] func188 rfl rfl ntmps188 rfl rfl (.bool _) λhs σ=>?_
 simp only[go_sem,simprocAttr];refine⟨λh0=>aj.fn (kQ a) ?_,λh0=>aj.fn (qk a b) ?_⟩
 .cases h:fL a with
  |none=>simp only[go_sem,simprocAttr,gr];grind [au,fT,bI]
  |some v=>obtain⟨e,u,r⟩:=v;simp only[go_sem,simprocAttr,gr];grind [au,fT,bI]
 simp only[go_sem,simprocAttr,rA];grind [au,fT]
theorem Dl (s:List UInt8):ai prog W0 118 [.str s] (.bool (eT s)):=by
 refine ak [2] [] func118 rfl rfl ntmps118 rfl rfl (.bool _) λhs σ=>?_
 have hsl:s.length<=maxLen:=dI (hs _ (by simp));simp only[go_sem,simprocAttr];refine⟨λh=>au ?_,λh=>?_⟩
 .grind [eT]
 have hlen:(decide (2<=s.length)&&decide (s.length<=24))=true:=by
  grind
 refine ae.cC [15] (λk A=>∃ pos,A.st=σ++[some (.iter s pos)]/\k=s.length-pos/\pos<=s.length/\ ∀j c,j<pos->s[j]?=some c->nK j c=true) s.length ⟨0,?_⟩ λk B ⟨pos,hst,hk,hp,hI⟩=>?_
 .simp only[go_sem,simprocAttr];simp
 simp only[go_sem,simprocAttr,hst];refine⟨λhlt=>?_,λhge=>?_⟩
 .obtain⟨c,hc⟩:=get_some hlt;have bad:nK pos c=false->eT s=false:=λhd=>by
   grind [eT,pV]
  rcases adj c.toNat 128 with h8|h8
  .rw[oL hc h8];simp only[go_sem,simprocAttr];refine⟨λhb=>au ?_,λhb=>.here (s.length-(pos+1)) (by omega) ⟨pos+1,?_⟩⟩
   .grind [nK,jR,bm]
   .simp only[go_sem,simprocAttr];refine⟨by omega,λj d hj hd=>?_⟩;rcases acT.1 hj with hj|rfl
    .simp_all
    .have e:d=c:=by simp_all
     subst e
     revert hb
     simp only[nK,jR,bm];simp;omega
  .have:=tx hc h8;refine⟨λhb=>au (bad ?_).symm,λhb=>?_⟩
   .grind [nK,jR,bm]
   .simp at hb;omega
 grind [lx,au,eT]
theorem wG (a:Atom):ai prog W0 187 [aV a] (.bool (cA a)):=by
 refine ak [2] [1] func187 rfl rfl ntmps187 rfl rfl (.bool _) λhs σ=>?_
 simp only[go_sem,simprocAttr,aV];refine aj.fn (Dl a.name) ?_;simp only[go_sem,simprocAttr];have low:(!eT a.name||decide (a.rel<0)||decide (5<a.rel))=true->cA a=false:=λh=>by
  grind [cA]
 have high:(!eT a.name||decide (a.rel<0)||decide (5<a.rel))=false->cA a=if a.rel=0 then a.ver==[]else bI a.ver:=λh=>by
  grind [cA]
 refine⟨λh=>au (low h).symm,λh=>⟨λh0=>au (by simp_all),λh0=>aj.fn (kQ a.ver) ?_⟩⟩;have hm:=high h;rw[if_neg h0]at hm;cases h:fL a.ver with
 |none=>simp only[go_sem,simprocAttr,gr];grind [au,bI]
 |some v=>obtain⟨e,u,r⟩:=v;simp only[go_sem,simprocAttr,gr];grind [au,bI]
end Go.Proofs.Tryz
end
section
namespace Go.Av
structure aM (σ st:ab)(v:AV)(e:TypeId)(xs:List AV):Prop where
 bld:Bld st v e xs
 ext:Ext σ st
 tok: ∀t,fJ v=some t->σ.length<=t
theorem aM.nil {σ st:ab}(h:Ext σ st)(e:TypeId):aM σ st .ar e []:=⟨.inl ⟨rfl,rfl⟩,h,λt h=>by cases h⟩
theorem aM.app {σ st st':ab}{v v':AV}{e:TypeId}{xs zs:List AV}(h:aM σ st v e xs)(ha:App st v e zs v' st'):aM σ st' v' e zs:=by
 have hl:=h.ext.le;refine⟨ha.bld,?_,λt ht=>?_⟩
 .have hl':=ha.len;refine adk λi=>?_
  rw[adg];by_cases hi:i<σ.length
  .rw[if_pos hi,ha.old i (by omega) (λe=>by have:=h.tok i e;omega)];have e:=congrArg (·[i]?) h.ext;grind
  grind
 .rcases ha.tok with e|⟨u,e,hu⟩
  .exact h.tok t (by simp_all)
  grind
theorem aM.more {σ st:ab}{v:AV}{e:TypeId}{xs:List AV}(h:aM σ st v e xs)(l:ab):aM σ (st++l) v e xs:=by
 refine⟨?_,h.ext.app l,h.tok⟩;rcases h.bld with h1|h1|⟨t,h1,h2⟩
 .exact .inl h1
 .exact .inr (.inl h1)
 .exact .inr (.inr ⟨t,h1,by grind⟩)
theorem aM.cb {σ st:ab}{v:AV}{e:TypeId}{xs:List AV}(h:aM σ st v e xs):dq v (.sl e xs):=by
 rcases h.bld with⟨rfl,rfl⟩|rfl|⟨t,rfl,_⟩
 .exact .ar _
 .exact .lit _ _
 .exact .own _ _ _
theorem Ext.eq {σ st:ab}(h:Ext σ st):st=σ++st.drop σ.length:=by
 have:=ac8 σ.length st;rw[h]at this;simp_all
theorem Ext.trans {σ st st':ab}(h:Ext σ st)(h':Ext st st'):Ext σ st':=by
 rw[h'.eq];exact h.app _
theorem aM.on {σ st st':ab}{v:AV}{e:TypeId}{xs:List AV}(h:aM σ st v e xs)(h':Ext st st'):aM σ st' v e xs:=by
 rw[h'.eq];exact h.more _
theorem aM.len {σ st:ab}{v:AV}{e:TypeId}{xs:List AV}(h:aM σ st v e xs):oA v= .int .i64 xs.length:=by
 rcases h.bld with⟨rfl,rfl⟩|rfl|⟨t,rfl,_⟩<;>rfl
theorem aM.fR {σ st:ab}{v:AV}{e:TypeId}{xs:List AV}(h:aM σ st v e xs)(P:Program)(t:TypeId):fR P t v=((elT P t).isSome=true):=by
 rcases h.bld with⟨rfl,rfl⟩|rfl|⟨t,rfl,_⟩<;>rfl
theorem aM.notM {σ st:ab}{v:AV}{e:TypeId}{xs:List AV}(h:aM σ st v e xs):dm v:=by
 rcases h.bld with⟨rfl,rfl⟩|rfl|⟨t,rfl,_⟩<;>trivial
theorem aM.ok {σ st:ab}{v:AV}{e:TypeId}{xs:List AV}(h:aM σ st v e xs)(g:Option Bool):okM g v=True:=ct h.notM
theorem aM.un {σ st:ab}{v:AV}{e:TypeId}{xs:List AV}(h:aM σ st v e xs):unm v=v:=da h.notM
attribute [go_sem] List.range'_succ List.range'_zero
theorem Sub.WZ {α:Type}{f g:α->AV}{e:TypeId}(l:List α)(h: ∀a∈l,Sub (f a) (g a)):Sub (.sl e (l.map f)) (.sl e (l.map g)):=by
 refine .sls (by simp) λi x y hx hy=>?_
 grind
theorem eV.sl (st:ab)(e:TypeId)(ys:List AV):eV st (.sl e ys) e ys:=.inl rfl
theorem eV.lit (st:ab)(e:TypeId)(ys:List AV):eV st (.lit e ys) e ys:=.inl rfl
theorem ae.ats {P:Program}{W0:World}{n:Nat}{fz:List Nat}{A:aa}{c:Code}{id:Nat}{Q:Exit->aa->Prop}(ks:List Nat)(R:aa->Prop)(h:ae P W0 n fz c .mk (eD id (cr R Q)) .mk A)(hR: ∀B,R B->Q .normal (keep ks A B))(hks:Kept fz c .mk ks:=by exact .of (by kernel_rfl)):ae P W0 n fz c .mk (eD id Q) .mk A:=by
 have e:eD id (cr (Q .normal) Q)=eD id Q:=by
  funext e A;cases e<;>rfl
 have:=ae.at (K:=Q .normal) ks R h hR hks
 rwa [e]at this
def cU (l:List Clause):Int:=
 if 12<l.length\/l.any (λc=>decide (6<c.length))=true then 12 else if l.any (λc=>decide (c.length=0)||c.any λa=>!cA a)=true then 3 else 0
def single (l:List Atom):List Clause:=l.map λa=>[a]
def bU (p:jx):Atom:=⟨p.name,if p.ver=[]then 0 else 3,p.ver⟩
def aT (p:Pkg):Int:=if (!eT p.name|| !bI p.ver)=true then 3 else orL [cU p.pre,cU p.dep,cU p.rcm,cU (single p.con),cU (single p.brk),cU (single (p.eN.map bU))]
def dE :List Pkg->List (List UInt8)->List (List UInt8)
 |[],acc=>acc
 |p::r,acc=>dE r (if acc.any (λx=>p.name==x)then acc else acc++[p.name])
def dA (p q:Pkg):Bool:=q.name==p.name&&bb q.ver p.ver
def pH :List Pkg->List Pkg->Bool
 |_,[]=>false
 |bef,p::r=>bef.any (dA p)||pH (bef++[p]) r
def aY (l:List Pkg):Int:=
 if 24<l.length then 12 else if orL (l.map aT)≠0 then orL (l.map aT)else if pH [] l=true then 4 else if 10<(dE l []).length then 12 else 0
end Go.Av
end
section
namespace Go.Proofs.Tryz
open Go Go.Av
set_option maxRecDepth 10000
variable {W0 :World}
def lJ (a:Atom):AV:=.lit 76 [aV a]
theorem dm.atom (a:Atom):dm (aV a):=trivial
theorem dm.atoms (l:List Atom):dm (aF l):=trivial
@[go_sem] theorem WX (g:Option Bool)(l:List Atom):okM g (aF l)=True:=eq_true trivial
theorem Ea (l:List Atom):unm (aF l)=aF l:=rfl
theorem zf (P:Program)(t:TypeId)(l:List Atom):bc P t (aF l)=ck P t:=rfl
attribute [go_sem] Ea zf
@[go_sem] theorem T1 (g:Option Bool)(l:List Clause):okM g (aA l)=True:=eq_true trivial
theorem zj (l:List Clause):unm (aA l)=aA l:=rfl
theorem uG (P:Program)(t:TypeId)(l:List Clause):bc P t (aA l)=ck P t:=rfl
attribute [go_sem] zj uG
@[go_sem] theorem W7 (g:Option Bool)(l:List jx):okM g (cG l)=True:=eq_true trivial
theorem Ez (l:List jx):unm (cG l)=cG l:=rfl
theorem zD (P:Program)(t:TypeId)(l:List jx):bc P t (cG l)=ck P t:=rfl
attribute [go_sem] Ez zD
@[go_sem] theorem YZ (g:Option Bool)(l:List Pkg):okM g (aI l)=True:=eq_true trivial
theorem Ib (l:List Pkg):unm (aI l)=aI l:=rfl
theorem Bj (P:Program)(t:TypeId)(l:List Pkg):bc P t (aI l)=ck P t:=rfl
attribute [go_sem] Ib Bj
theorem kU (l:List Atom):Sub (.sl 77 (l.map lJ)) (aA (single l)):=by
 rw[aA,single,adl];exact .WZ l λa _=>.lit _ _
theorem jm {α:Type}{f:α->AV}{e:TypeId}(h: ∀a,aX 0 (f a))(l:List α):aX 0 (.sl e (l.map f)):=.sl λx hx=>by
 grind
theorem rM (a:Atom):aX 0 (aV a):=.agg λx hx=>by
 simp at hx;rcases hx with rfl|rfl|rfl
 .exact .str _
 .exact .int _ _
 .exact .str _
theorem pz (l:List Atom):aX 0 (aF l):=jm rM l
theorem ez (l:List Clause):aX 0 (aA l):=jm pz l
theorem vw (a:jx):aX 0 (dJ a):=.agg λx hx=>by
 simp at hx;rcases hx with rfl|rfl<;>exact .str _
theorem Nn (l:List jx):aX 0 (cG l):=jm vw l
theorem rB (p:Pkg):aX 0 (ax p):=.agg λx hx=>by
 simp at hx;rcases hx with rfl|rfl|rfl|rfl|rfl|rfl|rfl|rfl|rfl
 .exact .str _
 .exact .str _
 .exact ez _
 .exact ez _
 .exact ez _
 .exact pz _
 .exact pz _
 .exact Nn _
 .exact .bool _
theorem kL (l:List Pkg):aX 0 (aI l):=jm rB l
theorem we (l:List Atom)(hl:l.length<=1048576):ai prog W0 196 [aF l] (aA (single l)):=by
 refine ak [2] [5] func196 rfl rfl ntmps196 rfl rfl (ez _) λhs σ=>?_
 simp only[go_sem,simprocAttr,aF];refine ae.at [6,7] (λA=>∃ v,A.env 3=v/\aM σ A.st v 77 (l.map lJ)) ?_ λB ⟨v,h3,hb⟩=>?_
 .refine ae.upto [6,7] l.length (λi A=>∃ v,A.env 3=v/\A.env 8= .int .i64 i/\aM σ A.st v 77 ((l.take i).map lJ)) 0 (acH _) ?_ λi B hi ⟨v,h3,h8,hb⟩=>?_
  .simp only[go_sem,simprocAttr];exact⟨_,rfl,aM.nil (.refl _) _⟩
  simp only[go_sem,simprocAttr,h3,h8,hb.ok,hb.un,acG];refine⟨λhc=>⟨hc,?_⟩,λhc=>?_⟩
  .obtain⟨a,ha⟩:=get_some hc;simp only[aw ha];simp only[go_sem,simprocAttr,aV,h3,h8,hb.ok,hb.un];refine bA.own 1048576 (by kernel_rfl) (hb.more _).bld (.lit _ _ _) (by simp;omega) λv' σ' ha'=>?_
   have hb':=(hb.more _).app ha';simp only[go_sem,simprocAttr,h3,h8,hb.ok,hb.un,hb'.ok,hb'.un];refine⟨hc,_,rfl,ag hc (by rw[aq];omega),?_⟩;rw[ah ha,ac1];exact hb'
  .rw[acK hc]at hb;exact⟨_,rfl,hb⟩
 simp only[go_sem,simprocAttr,h3,hb.ok,hb.un];exact⟨hb.cb.trans (.sub (kU l)),hb.ext⟩
theorem p6 (l:List Atom)(hl:l.length<=1048576):ai prog W0 103 [aF l] (aA (single l)):=by
 refine ak [2] [5] func103 rfl rfl ntmps103 rfl rfl (ez _) λhs σ=>?_
 simp only[go_sem,simprocAttr,aF];refine ae.at [6,7] (λA=>∃ v,A.env 3=v/\aM σ A.st v 77 (l.map lJ)) ?_ λB ⟨v,h3,hb⟩=>?_
 .refine ae.upto [6,7] l.length (λi A=>∃ v,A.env 3=v/\A.env 8= .int .i64 i/\aM σ A.st v 77 ((l.take i).map lJ)) 0 (acH _) ?_ λi B hi ⟨v,h3,h8,hb⟩=>?_
  .simp only[go_sem,simprocAttr];exact⟨_,rfl,aM.nil (.refl _) _⟩
  simp only[go_sem,simprocAttr,h3,h8,hb.ok,hb.un,acG];refine⟨λhc=>⟨hc,?_⟩,λhc=>?_⟩
  .obtain⟨a,ha⟩:=get_some hc;simp only[aw ha];simp only[go_sem,simprocAttr,aV,h3,h8,hb.ok,hb.un];refine bA.own 1048576 (by kernel_rfl) (hb.more _).bld (.lit _ _ _) (by simp;omega) λv' σ' ha'=>?_
   have hb':=(hb.more _).app ha';simp only[go_sem,simprocAttr,h3,h8,hb.ok,hb.un,hb'.ok,hb'.un];refine⟨hc,_,rfl,ag hc (by rw[aq];omega),?_⟩;rw[ah ha,ac1];exact hb'
  .rw[acK hc]at hb;exact⟨_,rfl,hb⟩
 simp only[go_sem,simprocAttr,h3,hb.ok,hb.un];exact⟨hb.cb.trans (.sub (kU l)),hb.ext⟩
theorem MZ (l:List Atom):Sub (.sl 76 (l.map aV)) (aF l):=.refl _
theorem Et (l:List jx)(hl:l.length<=1048576):ai prog W0 197 [cG l] (aA (single (l.map bU))):=by
 refine ak [2] [5] func197 rfl rfl ntmps197 rfl rfl (ez _) λhs σ=>?_
 simp only[go_sem,simprocAttr,cG];refine ae.at [7,8] (λA=>∃ v,A.env 3=v/\aM σ A.st v 77 (l.map λp=>lJ (bU p))) ?_ λB ⟨v,h3,hb⟩=>?_
 .refine ae.upto [7,8] l.length (λi A=>∃ v,A.env 3=v/\A.env 9= .int .i64 i/\aM σ A.st v 77 ((l.take i).map λp=>lJ (bU p))) 0 (acH _) ?_ λi B hi ⟨v,h3,h8,hb⟩=>?_
  .simp only[go_sem,simprocAttr];exact⟨_,rfl,aM.nil (.refl _) _⟩
  simp only[go_sem,simprocAttr,h3,h8,hb.ok,hb.un,acG];refine⟨λhc=>⟨hc,?_⟩,λhc=>?_⟩
  .obtain⟨a,ha⟩:=get_some hc;simp only[aw ha];simp only[go_sem,simprocAttr,dJ,h3,h8,hb.ok,hb.un];refine cm.at [3,6,7,8,9] (by kernel_rfl) (λA=>A.st=B.st++[none,some (.cells 76 [aV (bU a)])]) (λh=>?_) (λh=>?_) λA hst=>?_
   .simp only[go_sem,simprocAttr,aV,bU];simp only[ac5,beq_eq_false_iff_ne]at h;rw[if_neg h]
   .simp only[go_sem,simprocAttr,aV,bU];simp only[adh,beq_iff_eq]at h;rw[if_pos h]
   have hb2:aM σ A.st v 77 ((l.take i).map λp=>lJ (bU p)):=by rw[hst];exact hb.more _
   simp only[go_sem,simprocAttr,h3,h8,hst,hb.ok,hb.un,aV];refine bA.own 1048576 (by kernel_rfl) hb2.bld (.lit _ _ _) (by simp;omega) λv' σ' ha'=>?_
   have hb':=hb2.app ha';simp only[go_sem,simprocAttr,h3,h8,hb.ok,hb.un,hb'.ok,hb'.un];refine⟨hc,_,rfl,ag hc (by rw[aq];omega),?_⟩;rw[ah ha,ac1];exact hb'
  .rw[acK hc]at hb;exact⟨_,rfl,hb⟩
 simp only[go_sem,simprocAttr,h3,hb.ok,hb.un];refine⟨hb.cb.trans (.sub ?_),hb.ext⟩;have:=kU (l.map bU);rw[adl]at this;exact this
theorem Ev (l:List jx)(hl:l.length<=1048576):ai prog W0 105 [cG l] (aF (l.map bU)):=by
 refine ak [2] [5] func105 rfl rfl ntmps105 rfl rfl (pz _) λhs σ=>?_
 simp only[go_sem,simprocAttr,cG];refine ae.at [7,8] (λA=>∃ v,A.env 3=v/\aM σ A.st v 76 (l.map λp=>aV (bU p))) ?_ λB ⟨v,h3,hb⟩=>?_
 .refine ae.upto [7,8] l.length (λi A=>∃ v,A.env 3=v/\A.env 9= .int .i64 i/\aM σ A.st v 76 ((l.take i).map λp=>aV (bU p))) 0 (acH _) ?_ λi B hi ⟨v,h3,h8,hb⟩=>?_
  .simp only[go_sem,simprocAttr];exact⟨_,rfl,aM.nil (.refl _) _⟩
  simp only[go_sem,simprocAttr,h3,h8,hb.ok,hb.un,acG];refine⟨λhc=>⟨hc,?_⟩,λhc=>?_⟩
  .obtain⟨a,ha⟩:=get_some hc;simp only[aw ha];simp only[go_sem,simprocAttr,dJ,h3,h8,hb.ok,hb.un];refine cm.at [3,6,7,8,9] (by kernel_rfl) (λA=>A.st=B.st++[none,some (.cells 76 [aV (bU a)])]) (λh=>?_) (λh=>?_) λA hst=>?_
   .simp only[go_sem,simprocAttr,aV,bU];simp only[ac5,beq_eq_false_iff_ne]at h;rw[if_neg h]
   .simp only[go_sem,simprocAttr,aV,bU];simp only[adh,beq_iff_eq]at h;rw[if_pos h]
   have hb2:aM σ A.st v 76 ((l.take i).map λp=>aV (bU p)):=by rw[hst];exact hb.more _
   simp only[go_sem,simprocAttr,h3,h8,hst,hb.ok,hb.un,aV];refine bA.own 1048576 (by kernel_rfl) hb2.bld (.lit _ _ _) (by simp;omega) λv' σ' ha'=>?_
   have hb':=hb2.app ha';simp only[go_sem,simprocAttr,h3,h8,hb.ok,hb.un,hb'.ok,hb'.un];refine⟨hc,_,rfl,ag hc (by rw[aq];omega),?_⟩;rw[ah ha,ac1];exact hb'
  .rw[acK hc]at hb;exact⟨_,rfl,hb⟩
 simp only[go_sem,simprocAttr,h3,hb.ok,hb.un];refine⟨hb.cb.trans (.sub ?_),hb.ext⟩;have:=MZ (l.map bU);rw[adl]at this;exact this
theorem Ux (c:Clause):ai prog W0 245 [aF c] (.bool (decide (6<c.length))):=by
 refine ak [2] [] func245 rfl rfl ntmps245 rfl rfl (.bool _) λhs σ=>?_
 simp only[go_sem,simprocAttr,aF,acG];grind [au]
theorem Qj (a:Atom):ai prog W0 246 [aV a] (.bool (!cA a)):=by
 refine ak [2] [1] func246 rfl rfl ntmps246 rfl rfl (.bool _) λhs σ=>?_
 simp only[go_sem,simprocAttr,aV];refine aj.fn (wG a) ?_;simp only[go_sem,simprocAttr]
 done
theorem PR (l:List Clause):ai prog W0 198 [aA l] (.int .i64 (cU l)):=by
 refine ak [2] [] func198 rfl rfl ntmps198 rfl rfl (.int _ _) λhs σ=>?_
 have hl:=(aL (hs _ (acI ..))).1;simp only[go_sem,simprocAttr,aA,acG];refine aD.fnG (λ_=>SU aF dm.atoms l (λc=>decide (6<c.length)) _ [] (λa _=>Ux a)) ?_;simp only[go_sem,simprocAttr];have e:(decide ((12:Int)<l.length)||l.any λc=>decide (6<c.length))=decide (12<l.length\/(l.any λc=>decide (6<c.length))=true):=by
  grind
 rw[e];refine⟨λh=>az (by grind [cU]),λh=>?_⟩;have hm:cU l=if l.any (λc=>decide (c.length=0)||c.any λa=>!cA a)=true then 3 else 0:=by grind [cU]
 refine ae.upto [12,13] l.length (λi A=>A.env 14= .int .i64 i/\A.st=σ/\ ∀c∈l.take i,(decide (c.length=0)||c.any λa=>!cA a)=false) 0 (acH _) ?_ λi B hi ⟨h8,hst,hI⟩=>?_
 .simp only[go_sem,simprocAttr];simp
 simp only[go_sem,simprocAttr,h8,hst,acG];refine⟨λhc=>⟨hc,?_⟩,λhc=>?_⟩
 .obtain⟨a,ha⟩:=get_some hc;simp only[aw ha];simp only[go_sem,simprocAttr,aF,acG];refine aD.fnG (λ_=>Dm aV dm.atom a (λc=>!cA c) _ [] (λa _=>Qj a)) ?_;simp only[go_sem,simprocAttr,h8,hst];have e:((a.length:Int)==0)=decide (a.length=0):=by grind
  simp only[e];refine⟨λhb=>az ?_,λhb=>⟨hc,ag hc hl,?_⟩⟩
  .grind
  .rw[ah ha];intro c hcm;rcases acO.1 hcm with hcm|hcm
   .grind
   simp_all
 grind [az]
theorem RE (l:List Clause):ai prog W0 107 [aA l] (.int .i64 (cU l)):=by
 refine ak [2] [8] func107 rfl rfl ntmps107 rfl rfl (.int _ _) λhs σ=>?_
 have hl:=(aL (hs _ (acI ..))).1;have hls:=(aL (hs _ (acI ..))).2;simp only[go_sem,simprocAttr,aA,acG];refine⟨λh=>az (by grind [cU]),λh=>?_⟩;have h12: ¬12<l.length:=λe=>by omega
 refine ae.at [0] (λA=>A.st=σ/\(l.any λc=>decide (6<c.length))=false) ?_ λB ⟨hst,h6⟩=>?_
 .refine ae.upto [0,12,13] l.length (λi A=>A.env 14= .int .i64 i/\A.st=σ/\ ∀c∈l.take i,c.length<=6) 0 (acH _) ?_ λi B hi ⟨h8,hst,hI⟩=>?_
  .simp only[go_sem,simprocAttr];simp
  simp only[go_sem,simprocAttr,h8,hst,acG];refine⟨λhc=>⟨hc,?_⟩,λhc=>?_⟩
  .obtain⟨a,ha⟩:=get_some hc;simp only[aw ha];simp only[go_sem,simprocAttr,aF,acG];refine⟨λhb=>az ?_,λhb=>⟨hc,ag hc hl,?_⟩⟩
   .grind [cU]
   .rw[ah ha];grind
  grind
 have hm:cU l=if l.any (λc=>decide (c.length=0)||c.any λa=>!cA a)=true then 3 else 0:=by grind [cU]
 simp only[go_sem,simprocAttr];refine ae.upto [22,23] l.length (λi A=>A.env 24= .int .i64 i/\Ext σ A.st/\ ∀c∈l.take i,(decide (c.length=0)||c.any λa=>!cA a)=false) 0 (acH _) ?_ λi B hi ⟨h8,hst,hI⟩=>?_
 .simp only[go_sem,simprocAttr];grind [Ext.refl]
 simp only[go_sem,simprocAttr,h8,acG];refine⟨λhc=>⟨hc,?_⟩,λhc=>⟨az ?_,hst⟩⟩
 .obtain⟨c,hcc⟩:=get_some hc;simp only[aw hcc];have hcl:c.length<=maxLen:=(aL (hls c (acL hcc))).1;simp only[go_sem,simprocAttr,aF,acG];refine⟨λh0=>⟨az ?_,hst⟩,λh0=>?_⟩
  .grind
  refine ae.ats [22,23,24] (λA=>Ext σ A.st/\(c.any λa=>!cA a)=false) ?_ λB ⟨hst,h6⟩=>?_
  .refine ae.upto [22,23,24,31,32] c.length (λi A=>A.env 33= .int .i64 i/\Ext σ A.st/\ ∀a∈c.take i,cA a=true) 0 (acH _) ?_ λj B hj ⟨h33,hst,hJ⟩=>?_
   .simp only[go_sem,simprocAttr];simp[hst]
   simp only[go_sem,simprocAttr,h33,acG];refine⟨λhc'=>⟨hc',?_⟩,λhc'=>?_⟩
   .obtain⟨a,ha⟩:=get_some hc';simp only[aw ha];simp only[go_sem,simprocAttr,aV];refine aj.fn (yt a) ?_;simp only[go_sem,simprocAttr,h33];refine⟨λhb=>⟨az ?_,hst.app _⟩,λhb=>⟨hc',ag hc' hcl,hst.app _,?_⟩⟩
    .grind
    .rw[ah ha];grind
   grind
  simp only[go_sem,simprocAttr,h8];refine⟨hc,ag hc hl,hst,?_⟩;rw[ah hcc];grind
 grind
theorem getD_map {α:Type}{f:α->AV}{l:List α}{i:Nat}{a:α}{d:AV}(h:l[i]?=some a):(l.map f)[i]?.getD d=f a:=by
 simp_all
theorem SC (l:List Atom):ai prog W0 104 [.sl 76 (l.map aV)] (.sl 76 ((l.take 13).map aV)):=by
 refine ak [2] [] func104 rfl rfl ntmps104 rfl rfl (jm rM _) λhs σ=>?_
 have e:uy (l.length:Int) 13=((min l.length 13:Nat):Int):=by unfold uy;split<;>omega
 simp only[go_sem,simprocAttr,acG,e];refine⟨by omega,?_⟩;rw[<-acU,ac9.2 (show min (min l.length 13) l.length=min 13 l.length by omega)];exact .refl _
theorem Hf (l:List jx):ai prog W0 106 [.sl 179 (l.map dJ)] (.sl 179 ((l.take 13).map dJ)):=by
 refine ak [2] [] func106 rfl rfl ntmps106 rfl rfl (jm vw _) λhs σ=>?_
 have e:uy (l.length:Int) 13=((min l.length 13:Nat):Int):=by unfold uy;split<;>omega
 simp only[go_sem,simprocAttr,acG,e];refine⟨by omega,?_⟩;rw[<-acU,ac9.2 (show min (min l.length 13) l.length=min 13 l.length by omega)];exact .refl _
theorem ME (l:List Atom):cU (single (l.take 13))=cU (single l):=by
 grind [cU,single,acK]
theorem H4 (p:Pkg):ai prog W0 46 [ax p] (.int .i64 (aT p)):=by
 refine ak [2] [1] func46 rfl rfl ntmps46 rfl rfl (.int _ _) λhs σ=>?_
 simp only[go_sem,simprocAttr,ax];refine aj.fn (K8 p.name) ?_;simp only[go_sem,simprocAttr];refine aD.fnG (λ_=>vk p.ver) ?_;simp only[go_sem,simprocAttr];refine⟨λh=>az (by grind [aT]),λh=>?_⟩;have hm:aT p=orL [cU p.pre,cU p.dep,cU p.rcm,cU (single p.con),cU (single p.brk),cU (single (p.eN.map bU))]:=by grind [aT]
 refine⟨.of (by kernel_rfl),aD.fn (SC p.con) ?_⟩;simp only[go_sem,simprocAttr];refine aD.fn (p6 (p.con.take 13) (by grind)) ?_;simp only[go_sem,simprocAttr];refine aD.fn (SC p.brk) ?_;simp only[go_sem,simprocAttr];refine aD.fn (p6 (p.brk.take 13) (by grind)) ?_;simp only[go_sem,simprocAttr];refine aD.fn (Hf p.eN) ?_;simp only[go_sem,simprocAttr];refine aD.fn (Ev (p.eN.take 13) (by grind)) ?_;simp only[go_sem,simprocAttr];refine aD.fn (p6 ((p.eN.take 13).map bU) (by grind)) ?_;simp only[go_sem,simprocAttr]
 let ls:=[p.pre,p.dep,p.rcm,single (p.con.take 13),single (p.brk.take 13),single ((p.eN.take 13).map bU)]
 have hl:orL (ls.map cU)=aT p:=by
  rw[hm];simp only[ls,adf,adv,ME,acU]
 have e:[aA p.pre,aA p.dep,aA p.rcm,aA (single (p.con.take 13)),aA (single (p.brk.take 13)),aA (single ((p.eN.take 13).map bU))]=ls.map aA:=rfl;simp only[e];refine ae.upto [35] 6 (λi A=>A.env 36= .int .i64 i/\A.st=σ/\orL ((ls.map cU).drop i)=aT p) 0 (acH _) ?_ λi B hi ⟨h8,hst,hI⟩=>?_
 .simp only[go_sem,simprocAttr];exact hl
 simp only[go_sem,simprocAttr,h8,hst];refine⟨λhc=>?_,λhc=>az ?_⟩
 .have hc':i<ls.length:=by show i<6;omega
  obtain⟨c,hcc⟩:=get_some hc';obtain⟨hlt,hae⟩:=acJ.1 hcc;rw[acM (by simp_all),acX,hae]at hI;simp only[getD_map hcc];refine⟨by simp_all,trivial,aj.fn (RE c) ?_⟩;simp only[go_sem,simprocAttr,h8,hst];grind [az,orL,ag,aq]
 .rw[acN (by show 6<=i;omega)]at hI;exact hI
structure iM (p:Pkg):Prop where
 con:p.con.length<=1048576
 brk:p.brk.length<=1048576
 eN:p.eN.length<=1048576
theorem QT (p:Pkg)(hp:iM p):ai prog W0 128 [ax p] (.int .i64 (aT p)):=by
 refine ak [2] [1] func128 rfl rfl ntmps128 rfl rfl (.int _ _) λhs σ=>?_
 simp only[go_sem,simprocAttr,ax];refine aj.fn (kQ p.ver) ?_;have hpv: ∃e u r,gr (fL p.ver)= .tup [.str e,.str u,.str r,.int .i64 (if bI p.ver then 0 else 3)]:=by
  cases h:fL p.ver with
  |none=>exact⟨_,_,_,by rw[bI,h];rfl⟩
  |some v=>exact⟨_,_,_,by rw[bI,h];rfl⟩
 obtain⟨e,u,r,hpv⟩:=hpv;rw[hpv];simp only[go_sem,simprocAttr];refine aj.fn (Dl p.name) ?_;simp only[go_sem,simprocAttr];have hb:(!eT p.name||(if bI p.ver=true then(0:Int)else 3) !=0)=(!eT p.name|| !bI p.ver):=by grind
 simp only[hb];refine⟨λh=>az (by grind [aT]),λh=>?_⟩;have hm:aT p=orL [cU p.pre,cU p.dep,cU p.rcm,cU (single p.con),cU (single p.brk),cU (single (p.eN.map bU))]:=by grind [aT]
 refine⟨.of (by kernel_rfl),aD.fn (we p.con hp.con) ?_⟩;simp only[go_sem,simprocAttr];refine aD.fn (we p.brk hp.brk) ?_;simp only[go_sem,simprocAttr];refine aD.fn (Et p.eN hp.eN) ?_;simp only[go_sem,simprocAttr]
 let ls:=[p.pre,p.dep,p.rcm,single p.con,single p.brk,single (p.eN.map bU)]
 have hl:orL (ls.map cU)=aT p:=by
  rw[hm];simp only[ls,adf,adv]
 have e:[aA p.pre,aA p.dep,aA p.rcm,aA (single p.con),aA (single p.brk),aA (single (p.eN.map bU))]=ls.map aA:=rfl;simp only[e];refine ae.upto [41,42] 6 (λi A=>A.env 43= .int .i64 i/\A.st=σ/\orL ((ls.map cU).drop i)=aT p) 0 (acH _) ?_ λi B hi ⟨h8,hst,hI⟩=>?_
 .simp only[go_sem,simprocAttr];exact hl
 simp only[go_sem,simprocAttr,h8,hst];refine⟨λhc=>?_,λhc=>az ?_⟩
 .have hc':i<ls.length:=by show i<6;omega
  obtain⟨c,hcc⟩:=get_some hc';obtain⟨hlt,hae⟩:=acJ.1 hcc;rw[acM (by simp_all),acX,hae]at hI;simp only[aw hcc];refine⟨by simp_all,trivial,aj.fn (PR c) ?_⟩;simp only[go_sem,simprocAttr,h8,hst];grind [az,orL,ag,aq]
 .rw[acN (by show 6<=i;omega)]at hI;exact hI
theorem Wx (p q:Pkg):ai prog W0 181 [ax q,.loc 51 (ax p)] (.bool (dA p q)):=by
 refine ak [3] [2] func181 rfl rfl ntmps181 rfl rfl (.bool _) λhs σ=>?_
 simp only[go_sem,simprocAttr,ax];refine aD.fnG (λ_=>np q.ver p.ver) ?_;simp only[go_sem,simprocAttr];exact au rfl
theorem dm.pkg (p:Pkg):dm (ax p):=trivial
@[go_sem] theorem ZH (g:Option Bool)(p:Pkg):okM g (ax p)=True:=eq_true trivial
@[go_sem] theorem Zr (p:Pkg):unm (ax p)=ax p:=rfl
theorem pB (l:List Pkg)(hp: ∀p∈l,iM p):ai prog W0 115 [aI l] (.int .i64 (aY l)):=by
 refine ak [2] [4,8] func115 rfl rfl ntmps115 rfl rfl (.int _ _) λhs σ=>?_
 have hl:=(aL (hs _ (acI ..))).1;simp only[go_sem,simprocAttr,aI,acG];refine⟨λh=>az (by grind [aY]),λh=>?_⟩;have h24: ¬24<l.length:=λe=>by omega
 refine ae.at [0] (λA=>Ext σ A.st/\orL (l.map aT)=0) ?_ λB ⟨hst,h6⟩=>?_
 .refine ae.upto [0,12,13] l.length (λi A=>A.env 14= .int .i64 i/\Ext σ A.st/\orL ((l.map aT).drop i)=orL (l.map aT)) 0 (acH _) ?_ λi B hi ⟨h8,hst,hI⟩=>?_
  .simp only[go_sem,simprocAttr];simp[Ext.refl]
  simp only[go_sem,simprocAttr,h8,acG];refine⟨λhc=>⟨hc,?_⟩,λhc=>?_⟩
  .obtain⟨a,ha⟩:=get_some hc;obtain⟨hlt,hae⟩:=acJ.1 ha;rw[acM (by simp_all),acX,hae]at hI;simp only[aw ha];simp only[go_sem,simprocAttr];refine⟨by kernel_rfl,aj.fn (QT a (hp a (acL ha))) ?_⟩;simp only[go_sem,simprocAttr,h8];refine⟨λhq=>⟨az ?_,hst.app _⟩,λhq=>⟨hc,ag hc hl,hst.app _,?_⟩⟩
   .grind [orL,aY]
   grind [orL]
  .rw[acN (by simp_all)]at hI;exact⟨hst,hI.symm⟩
 have hm:aY l=if pH [] l=true then 4 else if 10<(dE l []).length then 12 else 0:=by grind [aY]
 simp only[go_sem,simprocAttr,acG];refine ae.at [0,24,25] (λA=>∃ v,A.env 6=v/\aM σ A.st v 9 ((dE l []).map .str)/\pH [] l=false) ?_ λB ⟨v,h6,hb,hd⟩=>?_
 .refine ae.upto [0,24,25] l.length (λi A=>∃ v acc,A.env 6=v/\A.env 26= .int .i64 i/\aM σ A.st v 9 (acc.map .str)/\dE (l.drop i) acc=dE l []/\pH (l.take i) (l.drop i)=pH [] l/\acc.length<=i) 0 (acH _) ?_ λi B hi ⟨v,acc,h6,h8,hb,hn,hd,hal⟩=>?_
  .simp only[go_sem,simprocAttr];grind [aM.nil]
  simp only[go_sem,simprocAttr,h6,h8,acG];refine⟨λhc=>⟨hc,?_⟩,λhc=>?_⟩
  .obtain⟨a,ha⟩:=get_some hc;obtain⟨hlt,hae⟩:=acJ.1 ha;rw[acM hc,hae]at hn hd;simp only[aw ha];simp only[go_sem,simprocAttr];rw[<-acU];refine⟨by kernel_rfl,⟨acH _,hi⟩,aj.fn (Xj ax dm.pkg (l.take i) (dA a) _ [.loc 51 (ax a)] (λq _=>Wx a q)) ?_⟩;simp only[go_sem,simprocAttr,ax,h6,hb.ok,hb.un];rw[pH]at hd;refine⟨λhq=>⟨az ?_,hb.ext.app _⟩,λhq=>aj.fn ((Ia acc a.name).cb (.cons hb.cb (.cons (.refl _) .nil))) ?_⟩
   .simp_all
   rw[hq,adt,<-ah ha]at hd;simp only[go_sem,simprocAttr,h6,h8,hb.ok,hb.un];rw[dE]at hn;have hb2:=(hb.more [none]);refine⟨λh=>?_,λh=>⟨hc,v,acc,rfl,ag hc hl,hb2,?_,hd,by omega⟩⟩
   .refine bA.own 1048576 (by kernel_rfl) hb2.bld (.lit _ _ _) (by grind) λv' σ' ha'=>?_
    have hb':=hb2.app ha';simp only[go_sem,simprocAttr,h8];refine⟨hc,_,acc++[a.name],rfl,ag hc hl,by simp_all,?_,hd,by simp_all⟩;simp_all
   simp_all
  .rw[acN hc]at hn hd;exact⟨_,rfl,by rw[<-hn];exact hb,hd.symm⟩
 simp only[go_sem,simprocAttr,h6,hb.ok,hb.un,hb.len,hb.fR,acG];refine⟨λhq=>⟨az ?_,hb.ext⟩,λhq=>⟨az ?_,hb.ext⟩⟩
 .grind
 grind
theorem OO (l:List Pkg):ai prog W0 54 [aI l] (.int .i64 (aY l)):=by
 refine ak [2] [4,8,11] func54 rfl rfl ntmps54 rfl rfl (.int _ _) λhs σ=>?_
 have hl:=(aL (hs _ (acI ..))).1;simp only[go_sem,simprocAttr,aI,acG];refine⟨λh=>az (by grind [aY]),λh=>?_⟩;have h24: ¬24<l.length:=λe=>by omega
 refine ae.at [0] (λA=>Ext σ A.st/\orL (l.map aT)=0) ?_ λB ⟨hst,h6⟩=>?_
 .refine ae.upto [0,15,16] l.length (λi A=>A.env 17= .int .i64 i/\Ext σ A.st/\orL ((l.map aT).drop i)=orL (l.map aT)) 0 (acH _) ?_ λi B hi ⟨h8,hst,hI⟩=>?_
  .simp only[go_sem,simprocAttr];simp[Ext.refl]
  simp only[go_sem,simprocAttr,h8,acG];refine⟨λhc=>⟨hc,?_⟩,λhc=>?_⟩
  .obtain⟨a,ha⟩:=get_some hc;obtain⟨hlt,hae⟩:=acJ.1 ha;rw[acM (by simp_all),acX,hae]at hI;simp only[aw ha];simp only[go_sem,simprocAttr];refine⟨by kernel_rfl,aj.fn (H4 a) ?_⟩;simp only[go_sem,simprocAttr,h8];refine⟨λhq=>⟨az ?_,hst.app _⟩,λhq=>⟨hc,ag hc hl,hst.app _,?_⟩⟩
   .grind [orL,aY]
   grind [orL]
  .rw[acN (by simp_all)]at hI;exact⟨hst,hI.symm⟩
 have hm:aY l=if pH [] l=true then 4 else if 10<(dE l []).length then 12 else 0:=by grind [aY]
 simp only[go_sem,simprocAttr,acG];refine ae.at [0,27,28] (λA=>∃ v,A.env 6=v/\aM σ A.st v 9 ((dE l []).map .str)/\pH [] l=false) ?_ λB ⟨v,h6,hb,hd⟩=>?_
 .refine ae.upto [0,27,28] l.length (λi A=>∃ v acc,A.env 6=v/\A.env 29= .int .i64 i/\aM σ A.st v 9 (acc.map .str)/\dE (l.drop i) acc=dE l []/\pH (l.take i) (l.drop i)=pH [] l/\acc.length<=i/\ ∀n,acc.any (λx=>n==x)=(l.take i).any (λq=>q.name==n)) 0 (acH _) ?_ λi B hi ⟨v,acc,h6,h8,hb,hn,hd,hal,hnm⟩=>?_
  .simp only[go_sem,simprocAttr];grind [aM.nil]
  simp only[go_sem,simprocAttr,h6,h8,acG];refine⟨λhc=>⟨hc,?_⟩,λhc=>?_⟩
  .obtain⟨a,ha⟩:=get_some hc;obtain⟨hlt,hae⟩:=acJ.1 ha;rw[acM hc,hae]at hn hd;simp only[aw ha];simp only[go_sem,simprocAttr];rw[<-acU];refine⟨by kernel_rfl,⟨acH _,hi⟩,?_⟩;rw[pH]at hd;rw[dE]at hn;have hb2:=(hb.more [none]);have hil:(l.take i).length=i:=by simp_all
   refine ae.at [0,6,8,27,28,29] (λA=>Ext (B.st++[none]) A.st/\A.env 9= .bool ((l.take i).any λq=>q.name==a.name)/\(l.take i).any (dA a)=false) ?_ λA ⟨hst,h9,hd2⟩=>?_
   .refine ae.upto [0,6,8,27,28,29,36,37] i (λj A=>A.env 38= .int .i64 j/\Ext (B.st++[none]) A.st/\A.env 9= .bool (((l.take i).take j).any λq=>q.name==a.name)/\((l.take i).take j).any (dA a)=false) 0 (acH _) ?_ λj A hj ⟨h38,hst,h9,hd2⟩=>?_
    .simp only[go_sem,simprocAttr,acG];simp[Ext.refl]
    simp only[go_sem,simprocAttr,h38,h9,acG];refine⟨λhj'=>⟨hj',?_⟩,λhj'=>?_⟩
    .obtain⟨b,hbj⟩:=get_some hj';have hjl:j<i:=by omega
     simp only[aw hbj];simp only[go_sem,simprocAttr,ax];have he: ∀f:Pkg->Bool,((l.take i).take (j+1)).any f=(((l.take i).take j).any f||f b):=λf=>by rw[ah hbj,adr];simp
     refine⟨λhq=>aj.fn (im b.ver a.ver) ?_,λhq=>?_⟩
     .simp only[go_sem,simprocAttr,h38];refine⟨λhv=>⟨az ?_,hb2.ext.trans (hst.app _)⟩,λhv=>⟨hjl,ag hjl (by omega),hst.app _,?_,?_⟩⟩
      .grind [dA]
      .simp_all
      grind [dA]
     grind [ag,Ext.app,dA]
    grind
   have hb3:=hb2.on hst;rw[hd2,adt,<-ah ha]at hd;have hns: ∀acc':List (List UInt8),acc'=(if (acc.any λx=>a.name==x)=true then acc else acc++[a.name])-> ∀n,acc'.any (λx=>n==x)=(l.take (i+1)).any (λq=>q.name==n):=λacc' e n=>by
    rw[ah ha,adr,<-hnm n,e];grind
   simp only[go_sem,simprocAttr,ax,h6,h8,h9,hb3.ok,hb3.un];refine⟨λh=>?_,λh=>⟨hc,v,acc,rfl,ag hc hl,hb3,?_,hd,by omega,?_⟩⟩
   .refine bA.own 1048576 (by kernel_rfl) hb3.bld (.lit _ _ _) (by grind) λv' σ' ha'=>?_
    have hb':=hb3.app ha';simp only[go_sem,simprocAttr,h8];rw[<-hnm]at h;rw[if_neg (by simp_all)]at hn hns;refine⟨hc,_,acc++[a.name],rfl,ag hc hl,by simp_all,hn,hd,by simp_all,hns _ rfl⟩
   .simp_all
   simp_all
  .rw[acN hc]at hn hd;exact⟨_,rfl,by rw[<-hn];exact hb,hd.symm⟩
 simp only[go_sem,simprocAttr,h6,hb.ok,hb.un,hb.len,hb.fR,acG];refine⟨λhq=>⟨az ?_,hb.ext⟩,λhq=>⟨az ?_,hb.ext⟩⟩
 .grind
 grind
end Go.Proofs.Tryz
end
section
namespace Go.Av
theorem any_succ {α:Type}{l:List α}{i:Nat}{x:α}(h:l[i]?=some x)(f:α->Bool):(l.take (i+1)).any f=((l.take i).any f||f x):=by
 simp_all[ah]
theorem CG {α:Type}{l:List α}{i:Nat}(h:l.length<=i)(f:α->Bool):(l.take i).any f=l.any f:=by rw[acK h]
def c8 (p:Pkg)(a:Atom):Bool:=
 cA a&&((p.name==a.name&&fT a.rel p.ver a.ver)||p.eN.any λv=>v.name==a.name&&(a.rel==0||fT a.rel v.ver a.ver))
def mB (p q:Pkg):Bool:=p.con.any (c8 q)||p.brk.any (c8 q)
def fH (p q:Pkg):Bool:=p.name !=q.name&&(mB p q||mB q p)
def gN (c:Clause)(l:List Pkg):Bool:=c.any λa=>l.any λp=>c8 p a
def tQ (l bef:List Pkg)(p:Pkg):Bool:=aT p !=0||bef.any (λq=>q.name==p.name||fH p q)||(p.pre.any (λc=>!gN c l)||p.dep.any (λc=>!gN c l))
def uk (l:List Pkg):List Pkg->List Pkg->Bool
 |_,[]=>false
 |bef,p::r=>tQ l bef p||uk l (bef++[p]) r
def dh (l:List Pkg):Bool:=!uk l [] l
theorem Oe :bI []=false:=rfl
theorem holds_nil {r:Int}(b:List UInt8):fT r [] b=false:=by
 simp[fT,Oe]
end Go.Av
end
section
namespace Go.Proofs.Tryz
open Go Go.Av
set_option maxRecDepth 10000
variable {W0 :World}
@[go_sem] theorem YC (g:Option Bool)(p:Atom):okM g (aV p)=True:=eq_true trivial
@[go_sem] theorem XS (p:Atom):unm (aV p)=aV p:=rfl
@[go_sem] theorem WY (p:Atom):bc prog 76 (aV p)=true:=by kernel_rfl
@[go_sem] theorem XK (p:Pkg):bc prog 51 (ax p)=true:=by kernel_rfl
@[go_sem] theorem YQ (g:Option Bool)(p:jx):okM g (dJ p)=True:=eq_true trivial
@[go_sem] theorem XG (p:jx):unm (dJ p)=dJ p:=rfl
theorem dm.eN (p:jx):dm (dJ p):=trivial
theorem WA (a:Atom)(v:jx):ai prog W0 190 [dJ v,.loc 76 (aV a)] (.bool (v.name==a.name&&(a.rel==0||fT a.rel v.ver a.ver))):=by
 refine ak [3] [2] func190 rfl rfl ntmps190 rfl rfl (.bool _) λhs σ=>?_
 simp only[go_sem,simprocAttr,dJ,aV];refine aD.fnG (λ_=>EL a.rel v.ver a.ver) ?_;simp only[go_sem,simprocAttr]
theorem xp (p:Pkg)(a:Atom):ai prog W0 121 [ax p,aV a] (.bool (c8 p a)):=by
 refine ak [4] [2,3] func121 rfl rfl ntmps121 rfl rfl (.bool _) λhs σ=>?_
 simp only[go_sem,simprocAttr,ax,aV];refine aj.fn (wG a) ?_;simp only[go_sem,simprocAttr];refine⟨λh=>au (by grind [c8]),λh=>aD.fnG (λ_=>EL a.rel p.ver a.ver) ?_⟩;simp only[go_sem,simprocAttr];refine⟨λh2=>au (by grind [c8]),λh2=>aj.fn (X0 dJ dm.eN p.eN _ _ [.loc 76 (aV a)] (λq _=>WA a q)) ?_⟩;simp only[go_sem,simprocAttr];grind [au,c8]
theorem ud (q:Pkg)(a:Atom):ai prog W0 242 [aV a,.loc 51 (ax q)] (.bool (c8 q a)):=by
 refine ak [3] [2] func242 rfl rfl ntmps242 rfl rfl (.bool _) λhs σ=>?_
 simp only[go_sem,simprocAttr];refine aj.fn (xp q a) ?_;simp only[go_sem,simprocAttr]
 try exact au rfl
theorem vI (p q:Pkg):ai prog W0 195 [ax p,ax q] (.bool (mB p q)):=by
 refine ak [4] [2,3] func195 rfl rfl ntmps195 rfl rfl (.bool _) λhs σ=>?_
 simp only[go_sem,simprocAttr,ax];refine aj.fn (Sm aV dm.atom p.con (c8 q) _ [.loc 51 (ax q)] (λa _=>ud q a)) ?_;simp only[go_sem,simprocAttr];refine aD.go (λ_=>Sm aV dm.atom p.brk (c8 q) _ [.loc 51 (ax q)] (λa _=>ud q a)) ?_;simp only[go_sem,simprocAttr]
 try exact au rfl
theorem FZ (p q:Pkg):ai prog W0 127 [ax p,ax q] (.bool (fH p q)):=by
 refine ak [4] [2,3] func127 rfl rfl ntmps127 rfl rfl (.bool _) λhs σ=>?_
 simp only[go_sem,simprocAttr,ax];refine aD.fnG (λ_=>vI p q) ?_;simp only[go_sem,simprocAttr];refine aD.fnG (λ_=>vI q p) ?_;simp only[go_sem,simprocAttr]
 try exact au rfl
theorem Km (p:Pkg)(a:Atom):ai prog W0 64 [ax p,aV a] (.bool (c8 p a)):=by
 refine ak [4] [2,3,6] func64 rfl rfl ntmps64 rfl rfl (.bool _) λhs σ=>?_
 have hl:=(aL (pg (hs _ (acI ..)) (cG p.eN) (by simp))).1;simp only[go_sem,simprocAttr,ax,aV];refine aj.fn (yt a) ?_;simp only[go_sem,simprocAttr];refine⟨λh=>au (by grind [c8]),λh=>aD.fnG (λ_=>D7 a.rel p.ver a.ver) ?_⟩;simp only[go_sem,simprocAttr];refine⟨λh2=>au (by grind [c8]),λh2=>?_⟩;simp only[go_sem,simprocAttr,cG,acG];refine ae.upto [3,25,26] p.eN.length (λi A=>A.env 27= .int .i64 i/\Ext σ A.st/\(p.eN.take i).any (λv=>v.name==a.name&&(a.rel==0||fT a.rel v.ver a.ver))=false) 0 (acH _) ?_ λi B hi ⟨h8,hst,hI⟩=>?_
 .simp only[go_sem,simprocAttr];simp[Ext.refl]
 simp only[go_sem,simprocAttr,h8,acG];refine⟨λhc=>⟨hc,?_⟩,λhc=>⟨au ?_,hst⟩⟩
 .obtain⟨v,hv⟩:=get_some hc;simp only[aw hv];simp only[go_sem,simprocAttr,dJ];refine aD.fnG (λ_=>D7 a.rel v.ver a.ver) ?_;simp only[go_sem,simprocAttr,h8];have e:(v.name==a.name&&(a.rel==0|| !v.ver==[]&&fT a.rel v.ver a.ver))=(v.name==a.name&&(a.rel==0||fT a.rel v.ver a.ver)):=by
   grind [holds_nil]
  simp only[e];refine⟨λhq=>⟨au ?_,hst.app _⟩,λhq=>⟨hc,ag hc hl,hst.app _,by grind [any_succ]⟩⟩;grind [c8]
 grind [c8]
theorem tR (p q:Pkg):ai prog W0 108 [ax p,ax q] (.bool (mB p q)):=by
 refine ak [4] [2,3,8] func108 rfl rfl ntmps108 rfl rfl (.bool _) λhs σ=>?_
 have hl1:=(aL (pg (hs _ (acI ..)) (aF p.con) (by simp))).1;have hl2:=(aL (pg (hs _ (acI ..)) (aF p.brk) (by simp))).1;simp only[go_sem,simprocAttr,ax]
 let ls:=[p.con,p.brk]
 have e:[aF p.con,aF p.brk]=ls.map aF:=rfl;have hls: ∀l∈ls,l.length<=maxLen:=by grind
 have ha:mB p q=ls.any λl=>l.any (c8 q):=by grind [mB]
 simp only[e];refine ae.upto [3,13] 2 (λi A=>A.env 14= .int .i64 i/\Ext σ A.st/\((ls.take i).any λl=>l.any (c8 q))=false) 0 (acH _) ?_ λi B hi ⟨h8,hst,hI⟩=>?_
 .simp only[go_sem,simprocAttr];simp[Ext.refl]
 simp only[go_sem,simprocAttr,h8];refine⟨λhc=>?_,λhc=>⟨au ?_,hst⟩⟩
 .have hc':i<ls.length:=by grind
  obtain⟨l,hll⟩:=get_some hc';have hl:=hls l (acL hll);simp only[getD_map hll];simp only[go_sem,simprocAttr,aF,acG];refine⟨hc',ae.ats [3,13,14] (λA=>Ext σ A.st/\l.any (c8 q)=false) ?_ λA ⟨hst,hd⟩=>?_⟩
  .refine ae.upto [3,13,14,17,18] l.length (λj A=>A.env 19= .int .i64 j/\Ext σ A.st/\(l.take j).any (c8 q)=false) 0 (acH _) ?_ λj A hj ⟨h19,hst,hJ⟩=>?_
   .simp only[go_sem,simprocAttr];simp[hst]
   simp only[go_sem,simprocAttr,h19,acG];refine⟨λhc'=>⟨hc',?_⟩,λhc'=>⟨hst,by grind⟩⟩;obtain⟨a,ha'⟩:=get_some hc';simp only[aw ha'];simp only[go_sem,simprocAttr];refine aj.fn (Km q a) ?_;simp only[go_sem,simprocAttr,h19];refine⟨λhq=>⟨au ?_,hst.app _⟩,λhq=>⟨hc',ag hc' hl,hst.app _,by grind [any_succ]⟩⟩;grind
  simp only[go_sem,simprocAttr,h8];grind [ag,aq]
 grind [CG]
theorem N4 (p q:Pkg):ai prog W0 47 [ax p,ax q] (.bool (fH p q)):=by
 refine ak [4] [2,3] func47 rfl rfl ntmps47 rfl rfl (.bool _) λhs σ=>?_
 simp only[go_sem,simprocAttr,ax];refine aD.fnG (λ_=>tR p q) ?_;simp only[go_sem,simprocAttr];refine aD.fnG (λ_=>tR q p) ?_;simp only[go_sem,simprocAttr]
 try exact au rfl
theorem Kw (c:Clause)(l:List Pkg):ai prog W0 48 [aF c,aI l] (.bool (gN c l)):=by
 refine ak [4] [6,8] func48 rfl rfl ntmps48 rfl rfl (.bool _) λhs σ=>?_
 have hcl:=(aL (hs _ (acI ..))).1;have hl:=(aL (hs (aI l) (by simp))).1;simp only[go_sem,simprocAttr,aF,aI,acG];refine ae.upto [1,9,10] c.length (λi A=>A.env 11= .int .i64 i/\Ext σ A.st/\((c.take i).any λa=>l.any λp=>c8 p a)=false) 0 (acH _) ?_ λi B hi ⟨h8,hst,hI⟩=>?_
 .simp only[go_sem,simprocAttr];simp[Ext.refl]
 simp only[go_sem,simprocAttr,h8,acG];refine⟨λhc=>⟨hc,?_⟩,λhc=>⟨au ?_,hst⟩⟩
 .obtain⟨a,ha⟩:=get_some hc;simp only[aw ha];simp only[go_sem,simprocAttr];refine ae.ats [1,9,10,11] (λA=>Ext σ A.st/\(l.any λp=>c8 p a)=false) ?_ λA ⟨hst,hd⟩=>?_
  .refine ae.upto [1,6,9,10,11,15,16] l.length (λj A=>A.env 17= .int .i64 j/\Ext σ A.st/\((l.take j).any λp=>c8 p a)=false) 0 (acH _) ?_ λj A hj ⟨h19,hst,hJ⟩=>?_
   .simp only[go_sem,simprocAttr];simp[hst.app]
   simp only[go_sem,simprocAttr,h19,acG];refine⟨λhc'=>⟨hc',?_⟩,λhc'=>⟨hst,by grind⟩⟩;obtain⟨p,hp⟩:=get_some hc';simp only[aw hp];simp only[go_sem,simprocAttr];refine aj.fn (Km p a) ?_;simp only[go_sem,simprocAttr,h19];refine⟨λhq=>⟨au ?_,hst.app _⟩,λhq=>⟨hc',ag hc' hl,hst.app _,by grind [any_succ]⟩⟩;grind [gN,any_true]
  simp only[go_sem,simprocAttr,h8];grind [ag,any_succ]
 .rw[CG hc]at hI;exact hI.symm
theorem Gk (l:List Pkg):ai prog W0 16 [aI l] (.bool (dh l)):=by
 refine ak [2] [4,6] func16 rfl rfl ntmps16 rfl rfl (.bool _) λhs σ=>?_
 have hl:=(aL (hs _ (acI ..))).1;have hls:=(aL (hs _ (acI ..))).2;simp only[go_sem,simprocAttr,aI,acG];refine ae.upto [0,11,12] l.length (λi A=>A.env 13= .int .i64 i/\Ext σ A.st/\uk l (l.take i) (l.drop i)=uk l [] l) 0 (acH _) ?_ λi B hi ⟨h8,hst,hI⟩=>?_
 .simp only[go_sem,simprocAttr];simp[Ext.refl]
 simp only[go_sem,simprocAttr,h8,acG];refine⟨λhc=>⟨hc,?_⟩,λhc=>⟨au ?_,hst⟩⟩
 .obtain⟨a,ha⟩:=get_some hc;obtain⟨hlt,hae⟩:=acJ.1 ha;have hsm:=pg (hls a (acL ha));have hpre:a.pre.length<=maxLen:=(aL (hsm (aA a.pre) (by simp))).1;have hdep:a.dep.length<=maxLen:=(aL (hsm (aA a.dep) (by simp))).1;rw[acM hc,hae,uk]at hI;have sick:tQ l (l.take i) a=true->false=dh l:=λe=>by grind [dh]
  simp only[aw ha];simp only[go_sem,simprocAttr];refine aj.fn (H4 a) ?_;simp only[go_sem,simprocAttr,acG];refine⟨λhq=>⟨au (sick ?_),hst.app _⟩,λhq=>?_⟩
  .grind [tQ]
  rw[<-acU];have hil:(l.take i).length=i:=by simp_all
  refine⟨⟨acH _,hi⟩,ae.at [0,4,11,12,13] (λA=>Ext σ A.st/\(l.take i).any (λq=>q.name==a.name||fH a q)=false) ?_ λA ⟨hst,hn⟩=>?_⟩
  .refine ae.upto [0,4,11,12,13,23,24] i (λj A=>A.env 25= .int .i64 j/\Ext σ A.st/\((l.take i).take j).any (λq=>q.name==a.name||fH a q)=false) 0 (acH _) ?_ λj A hj ⟨h25,hst,hJ⟩=>?_
   .simp only[go_sem,simprocAttr];simp[hst.app]
   simp only[go_sem,simprocAttr,h25,acG];refine⟨λhj'=>⟨hj',?_⟩,λhj'=>⟨hst,by grind⟩⟩;obtain⟨b,hbj⟩:=get_some hj';simp only[aw hbj];simp only[go_sem,simprocAttr,ax];refine aD.fnG (λ_=>N4 a b) ?_;simp only[go_sem,simprocAttr,h25];refine⟨λhq=>⟨au (sick ?_),hst.app _⟩,λhq=>⟨by omega,ag (show j<i by omega) (by omega),hst.app _,by grind [any_succ]⟩⟩;grind [tQ]
  simp only[go_sem,simprocAttr,ax]
  let ls:=[a.pre,a.dep]
  have e:[aA a.pre,aA a.dep]=ls.map aA:=rfl;have hls: ∀l∈ls,l.length<=maxLen:=by grind
  have hms:(a.pre.any (λc=>!gN c l)||a.dep.any (λc=>!gN c l))=ls.any λd=>d.any λc=>!gN c l:=by grind
  simp only[e];refine ae.ats [0,11,12,13] (λA=>Ext σ A.st/\(ls.any λd=>d.any λc=>!gN c l)=false) ?_ λA ⟨hst,hd⟩=>?_
  .refine ae.upto [0,11,12,13,44] 2 (λk A=>A.env 45= .int .i64 k/\Ext σ A.st/\((ls.take k).any λd=>d.any λc=>!gN c l)=false) 0 (acH _) ?_ λk A hk ⟨h45,hst,hK⟩=>?_
   .simp only[go_sem,simprocAttr];simp[hst]
   simp only[go_sem,simprocAttr,h45];refine⟨λhc=>?_,λhc=>⟨hst,by grind [CG]⟩⟩;have hc':k<ls.length:=by grind
   obtain⟨d,hd⟩:=get_some hc';have hl:=hls d (acL hd);simp only[getD_map hd];simp only[go_sem,simprocAttr,aA,acG];refine⟨hc',ae.ats [0,11,12,13,44,45] (λA=>Ext σ A.st/\(d.any λc=>!gN c l)=false) ?_ λA ⟨hst,hd'⟩=>?_⟩
   .refine ae.upto [0,11,12,13,44,45,48,49] d.length (λj A=>A.env 50= .int .i64 j/\Ext σ A.st/\((d.take j).any λc=>!gN c l)=false) 0 (acH _) ?_ λj A hj ⟨h50,hst,hJ⟩=>?_
    .simp only[go_sem,simprocAttr];simp[hst]
    simp only[go_sem,simprocAttr,h50,acG];refine⟨λhc'=>⟨hc',?_⟩,λhc'=>⟨hst,by grind⟩⟩;obtain⟨c,hcj⟩:=get_some hc';simp only[aw hcj];simp only[go_sem,simprocAttr];refine aj.fn (Kw c l) ?_;simp only[go_sem,simprocAttr,h50];refine⟨λhq=>⟨au (sick ?_),hst⟩,λhq=>⟨hc',ag hc' hl,hst,by grind [any_succ]⟩⟩;grind [tQ]
   simp only[go_sem,simprocAttr,h45];grind [ag,aq,any_succ]
  simp only[go_sem,simprocAttr,h8];grind [ag,tQ,ah]
 .rw[acN hc]at hI;rw[dh,<-hI];rfl
end Go.Proofs.Tryz
end
section
namespace Go.Av
section
variable {P :Program}{W0:World}{A:aa}
def Xa :AV->Option Nat
 | .row _ id _ _=>some id
 |_=>none
structure fA (σ st:ab)(v:AV)(e:TypeId)(xs:List AV):Prop where
 row:ee st v e xs
 ext:Ext σ st
 low: ∀id,Xa v=some id->σ.length<=id
theorem fA.nil {σ st:ab}(h:Ext σ st)(e:TypeId):fA σ st .ar e []:=⟨.inl ⟨rfl,rfl⟩,h,λt h=>by cases h⟩
theorem fA.notM {σ st:ab}{v:AV}{e:TypeId}{xs:List AV}(h:fA σ st v e xs):dm v:=by
 rcases h.row with⟨rfl,rfl⟩|rfl|⟨_,_,_,_,rfl,_⟩<;>trivial
theorem fA.ok {σ st:ab}{v:AV}{e:TypeId}{xs:List AV}(h:fA σ st v e xs)(g:Option Bool):okM g v=True:=ct h.notM
theorem fA.un {σ st:ab}{v:AV}{e:TypeId}{xs:List AV}(h:fA σ st v e xs):unm v=v:=da h.notM
theorem ee.len {st:ab}{v:AV}{e:TypeId}{xs:List AV}(h:ee st v e xs):oA v= .int .i64 xs.length:=by
 rcases h with⟨rfl,rfl⟩|rfl|⟨id,off,m,zs,rfl,_,h1,rfl⟩
 .rfl
 .rfl
 .have:((zs.drop off).take m).length=m:=by grind
  rw[this];rfl
theorem ee.fR {st:ab}{v:AV}{e:TypeId}{xs:List AV}(h:ee st v e xs)(P:Program)(t:TypeId):fR P t v=((elT P t).isSome=true):=by
 rcases h with⟨rfl,rfl⟩|rfl|⟨id,off,m,zs,rfl,_,h1,rfl⟩<;>rfl
theorem ee.read {st:ab}{v:AV}{e:TypeId}{xs:List AV}(h:ee st v e xs):eV st v e xs:=by
 rcases h with h|rfl|h
 .exact .inr (.inl h)
 .exact .inl rfl
 .exact .inr (.inr h)
theorem fA.more {σ st:ab}{v:AV}{e:TypeId}{xs:List AV}(h:fA σ st v e xs)(l:ab):fA σ (st++l) v e xs:=by
 refine⟨?_,h.ext.app l,h.low⟩;rcases h.row with h1|h1|⟨id,off,m,zs,h1,h2,h3⟩
 .exact .inl h1
 .exact .inr (.inl h1)
 .exact .inr (.inr ⟨id,off,m,zs,h1,by grind,h3⟩)
theorem fA.XC {σ st:ab}{v:AV}{e:TypeId}{xs:List AV}(h:fA σ st v e xs)(l:ab):Ext σ (cq v st++l):=by
 refine Ext.app ?_ l;unfold cq;split
 .exact h.ext.set (h.low _ rfl) _
 .exact h.ext
theorem bA.nP {σ:ab}{t u e:TypeId}{x y:AV}{xs ys:List AV}{dst:Option Nat}{k:aa->Prop}(N:Nat)(ho:yO P t u e N=true)(h:fA σ A.st x e xs)(hy:eV A.st y e ys)(hN:xs.length+ys.length<=N)
  (hk: ∀v st',fA σ st' v e (xs++ys)->k ((A.put dst v).ay st')):bA P [t,u] [x,y] dst A k .mk:=by
 refine bA.row N ho h.row hy hN (λhe=>hk _ _ (by simp_all)) λhe=>hk _ _ ⟨.inr (.inr ⟨A.st.length,0,_,xs++ys,rfl,?_,by simp,by grind⟩),h.XC _,λid hid=>?_⟩
 .have:(cq x A.st).length=A.st.length:=by unfold cq;grind
  simp_all
 .cases hid;exact h.ext.le
theorem fA.Uc {σ:ab}{v:AV}{e:TypeId}{xs:List AV}{d:Nat}{x:Exit}(h:fA σ A.st v e xs)(hx:x= .ret\/x= .normal)(hd:A.env d=v):bz (λA=>dq (js A.env [d]) (.sl e xs)/\A.st.take σ.length=σ) x A:=by
 have fin: ∀{B:aa},dq (js B.env [d]) (.sl e xs)->B.st.take σ.length=σ->bz (λA=>dq (js A.env [d]) (.sl e xs)/\A.st.take σ.length=σ) x B:=λh1 h2=>by
  grind [bz.ret,bz.normal]
 rcases h.row with⟨rfl,rfl⟩|rfl|⟨id,off,m,zs,rfl,h1,h2,rfl⟩
 .exact fin (by simp only[js,hd];exact .ar _) h.ext
 .exact fin (by simp only[js,hd];exact .lit _ _) h.ext
 .refine bz.frz d hd h1 h2 (fin ?_ ?_)
  .simp[js,aa.upd,aa.ay];exact .refl _
  .exact h.ext.set (h.low _ rfl) _
end
end Go.Av
end
section
namespace Go.Proofs.Tryz
open Go Go.Av
set_option maxRecDepth 10000
variable {W0 :World}
theorem VQ (σ:ab)(n:Nat)(hn:n<=1048576):
  aS prog W0 191 [.ar,.int .i64 n] σ λr σ'=>fA σ σ' r 77 []:=by
 refine bZ [4] [] func191 rfl rfl ntmps191 rfl rfl λhs=>?_
 simp only[go_sem,simprocAttr];refine cm.at [0,1] (by kernel_rfl) (λA=>A.st=σ) (λh=>absurd (of_decide_eq_true h) (by omega)) (λ_=>?_) λB hst=>?_
 .simp only[go_sem,simprocAttr]
 simp only[go_sem,simprocAttr];have hw:IntKind.i64.wrap ((n:Int)-0)=n:=by grind [aG]
 simp only[hw];refine cm.at [] (by kernel_rfl) (λA=>fA σ A.st (A.env 0) 77 []) (λh=>?_) (λ_=>?_) λB hb=>?_
 .simp only[go_sem,simprocAttr];refine bA.zero (e:=77) 1048576 (by kernel_rfl) (kn:=.i64) (by kernel_rfl) (z:=.ar) (by kernel_rfl) (by kernel_rfl) (by simp_all) hn ?_;simp only[go_sem,simprocAttr,hst];exact⟨acH _,.inr (.inr ⟨_,0,0,List.replicate n .ar,rfl,by simp,by simp,rfl⟩),(Ext.refl _).app _,λid h=>by cases h;omega⟩
 .simp only[go_sem,simprocAttr,hst];exact .nil (.refl _) _
 simp only[go_sem,simprocAttr];refine bz.ret ?_;simp only[go_sem,simprocAttr];exact⟨_,.refl _,hb.ext.le,hb⟩
theorem o8 {α:Type}{ls:List (List α)}{i:Nat}{l:List α}(h:ls[i]?=some l):(ls.take (i+1)).flatten=(ls.take i).flatten++l:=by
 simp_all[ah]
theorem Aa (ls:List (List Clause))(hls:ls.length<=1048576)(hn:ls.flatten.length<=1048576):
  ai prog W0 124 [.sl 47 (ls.map aA)] (aA ls.flatten):=by
 refine jJ [2] [] func124 rfl rfl ntmps124 rfl rfl (ez _) λhs σ=>?_
 have hfl: ∀i,(ls.take i).flatten.length<=1048576:=λi=>by
  grind [ac8]
 simp only[go_sem,simprocAttr,acG];refine ae.at [0] (λA=>A.env 3= .int .i64 ls.flatten.length/\A.st=σ) ?_ λB ⟨h3,hst⟩=>?_
 .refine ae.upto [0,9,10] ls.length (λi A=>A.env 11= .int .i64 i/\A.st=σ/\A.env 3= .int .i64 (ls.take i).flatten.length) 0 (acH _) ?_ λi B hi ⟨h8,hst,h3⟩=>?_
  .simp only[go_sem,simprocAttr]
   try simp
  simp only[go_sem,simprocAttr,h8,h3,hst,acG];refine⟨λhc=>⟨hc,?_⟩,λhc=>by grind⟩;obtain⟨l,hl⟩:=get_some hc;simp only[aw hl];have h1:=hfl i;have h2:=hfl (i+1);rw[o8 hl,ac2]at h2;have hw:IntKind.i64.wrap (((ls.take i).flatten.length:Int)+(l.length:Int))=(((ls.take (i+1)).flatten.length:Nat):Int):=by
   rw[o8 hl,ac2,aG (by omega),Int.natCast_add]
  simp only[go_sem,simprocAttr,aA,acG,hw];grind [ag,aq]
 simp only[go_sem,simprocAttr,h3];refine aj.goes (by simp only[go_sem,simprocAttr,hst]) (VQ σ _ hn) λr σ' hr=>?_
 simp only[go_sem,simprocAttr,acG];refine ae.at [] (λA=>∃ v,A.env 6=v/\fA σ A.st v 77 (ls.flatten.map aF)) ?_ λB ⟨v,h6,hb⟩=>?_
 .refine ae.upto [25,26] ls.length (λi A=>A.env 27= .int .i64 i/\ ∃v,A.env 6=v/\fA σ A.st v 77 ((ls.take i).flatten.map aF)) 0 (acH _) ?_ λi B hi ⟨h8,v,h6,hb⟩=>?_
  .simp only[go_sem,simprocAttr];simp_all
  simp only[go_sem,simprocAttr,h8,h6,acG];refine⟨λhc=>⟨hc,?_⟩,λhc=>⟨_,rfl,by grind⟩⟩;obtain⟨l,hl⟩:=get_some hc;have h2:=hfl (i+1);rw[o8 hl,ac2]at h2;simp only[aw hl];simp only[go_sem,simprocAttr,aA,hb.ok,hb.un];refine bA.nP 1048576 (by kernel_rfl) hb (.sl _ _ _) (by grind) λv' st' hb'=>?_
  simp only[go_sem,simprocAttr,h8];refine⟨hc,ag hc (by grind [aq]),_,rfl,?_⟩;simp_all[o8]
 simp only[go_sem,simprocAttr,h6];exact fA.Uc (hb) (.inl rfl) (by simp only[go_sem,simprocAttr])
end Go.Proofs.Tryz
end
section
namespace Go.Av
theorem aj.XW {P:Program}{W0:World}{A:aa}{g:FuncId}{caps us:List AV}{dst:Option Nat}{k:aa->Prop}{r:AV}{σ:ab}(hσ:A.st=σ)(h:aS P W0 g (us++caps) σ λr' σ'=>r'=r/\σ'=σ)(hk:k (A.put dst r)):aj P W0 (.fn g caps) us dst A k .mk:=.go hσ h λr' σ' ⟨h1,h2⟩=>by
 grind [qm]
section
variable {P :Program}
@[go_sem] theorem ZT (t t':TypeId)(id i:Nat)(path:List Nat):cZ P .neq t (.ptr t' id i path) .nil=if ik P t then .bool true else .undef:=by grind [cZ,dc,nF,AV.ig]
@[go_sem] theorem ZF (t t':TypeId)(id i:Nat)(path:List Nat):dd P .neq t (.ptr t' id i path) .nil=(ik P t=true):=by simp[dd,dc,nF,AV.ig]
@[go_sem] theorem ZG (t t':TypeId)(id i:Nat)(path:List Nat):cZ P .eql t (.ptr t' id i path) .nil=if ik P t then .bool false else .undef:=by grind [cZ,dc,nF,AV.ig]
@[go_sem] theorem ZI (t t':TypeId)(id i:Nat)(path:List Nat):dd P .eql t (.ptr t' id i path) .nil=(ik P t=true):=by simp[dd,dc,nF,AV.ig]
end
structure Fr (F:List Nat)(σ σ':ab):Prop where
 len:σ.length<=σ'.length
 old: ∀j,j<σ.length->j∉F->σ'[j]?=σ[j]?
def aR :AV->List Nat
 | .own _ _ t=>[t]
 | .row _ id _ _=>[id]
 |_=>[]
theorem Fr.refl (F:List Nat)(σ:ab):Fr F σ σ:=⟨ada _,λ_ _ _=>rfl⟩
theorem Fr.ext {F:List Nat}{σ σ':ab}(h:Ext σ σ'):Fr F σ σ':=⟨h.le,λj hj _=>by
 have e:=congrArg (·[j]?) h;simp_all⟩
theorem Fr.trans {F G:List Nat}{σ σ' σ'':ab}(h:Fr F σ σ')(h':Fr G σ' σ'')(hG: ∀j∈G,j∈F\/σ.length<=j):Fr F σ σ'':=⟨adm h.len h'.len,λj hj hF=>by
 rw[h'.old j (ac3 hj h.len) (λe=>by grind),h.old j hj hF]⟩
theorem Fr.set {F:List Nat}{σ σ':ab}(h:Fr F σ σ'){id:Nat}(hid:id∈F\/σ.length<=id)(o:Option bJ):Fr F σ (σ'.set id o):=⟨by simpa using h.len,λj hj hF=>by
 grind [Fr.old]⟩
theorem Fr.app {F:List Nat}{σ σ':ab}(h:Fr F σ σ')(l:ab):Fr F σ (σ'++l):=⟨by have:=h.len;grind,λj hj hF=>by
 grind [ac4,Fr.old]⟩
theorem Fr.mono {F G:List Nat}{σ σ':ab}(h:Fr F σ σ')(hG: ∀j∈F,j∈G):Fr G σ σ':=⟨h.len,λj hj hF=>h.old j hj λe=>hF (hG j e)⟩
theorem Fr.ug {F:List Nat}{σ σ':ab}(h:Fr F σ σ'){τ:ab}(ht:Ext τ σ)(hF: ∀j∈F,τ.length<=j):Ext τ σ':=by
 refine adk λi=>?_
 have:=ht.le;have:=h.len;rw[adg];by_cases hi:i<τ.length
 .rw[if_pos hi,h.old i (by omega) (λe=>by grind)];have e:=congrArg (·[i]?) ht;grind
 grind
theorem ma {σ:ab}{id:Nat}{te:TypeId}{xs:List AV}(h:id<σ.length):live (σ.set id (some (.cells te xs))) id=True:=eq_true ⟨te,xs,by simp[h]⟩
theorem aP {σ:ab}{id:Nat}{te:TypeId}{xs:List AV}(h:σ[id]?=some (some (.cells te xs))):live σ id=True:=eq_true ⟨te,xs,h⟩
theorem Bld.notM {st:ab}{v:AV}{e:TypeId}{xs:List AV}(h:Bld st v e xs):dm v:=by
 rcases h with⟨rfl,rfl⟩|rfl|⟨t,rfl,_⟩<;>trivial
theorem Bld.ok {st:ab}{v:AV}{e:TypeId}{xs:List AV}(h:Bld st v e xs)(g:Option Bool):okM g v=True:=ct h.notM
theorem Bld.un {st:ab}{v:AV}{e:TypeId}{xs:List AV}(h:Bld st v e xs):unm v=v:=da h.notM
theorem Bld.len {st:ab}{v:AV}{e:TypeId}{xs:List AV}(h:Bld st v e xs):oA v= .int .i64 xs.length:=by
 rcases h with⟨rfl,rfl⟩|rfl|⟨t,rfl,_⟩<;>rfl
theorem Bld.fR {st:ab}{v:AV}{e:TypeId}{xs:List AV}(h:Bld st v e xs)(P:Program)(t:TypeId):fR P t v=((elT P t).isSome=true):=by
 rcases h with⟨rfl,rfl⟩|rfl|⟨t,rfl,_⟩<;>rfl
theorem Bld.fits {st:ab}{v:AV}{e:TypeId}{xs:List AV}(h:Bld st v e xs)(P:Program)(t:TypeId):bc P t v=ck P t:=by
 rcases h with⟨rfl,rfl⟩|rfl|⟨t,rfl,_⟩<;>rfl
theorem ee.fits {st:ab}{v:AV}{e:TypeId}{xs:List AV}(h:ee st v e xs)(P:Program)(t:TypeId):bc P t v=ck P t:=by
 rcases h with⟨rfl,rfl⟩|rfl|⟨_,_,_,_,rfl,_⟩<;>rfl
theorem ee.notM {st:ab}{v:AV}{e:TypeId}{xs:List AV}(h:ee st v e xs):dm v:=by
 rcases h with⟨rfl,rfl⟩|rfl|⟨_,_,_,_,rfl,_⟩<;>trivial
theorem ee.ok {st:ab}{v:AV}{e:TypeId}{xs:List AV}(h:ee st v e xs)(g:Option Bool):okM g v=True:=ct h.notM
theorem ee.un {st:ab}{v:AV}{e:TypeId}{xs:List AV}(h:ee st v e xs):unm v=v:=da h.notM
theorem bA.ng {P:Program}{A:aa}{σ:ab}{t u e:TypeId}{x y:AV}{xs ys:List AV}{dst:Option Nat}{k:aa->Prop}(hσ:A.st=σ)(N:Nat)(ho:yO P t u e N=true)(hb:Bld σ x e xs)(hy:eV σ y e ys)(hN:xs.length+ys.length<=N)
  (hk: ∀v σ',App σ x e (xs++ys) v σ'->k ((A.put dst v).ay σ')):bA P [t,u] [x,y] dst A k .mk:=by
 grind [bA.own]
def dx (σ:ab)(x:AV)(e:TypeId)(xs:List AV):Prop:=(x= .ar/\xs=[])\/ ∃id off m zs,x= .row e id off m/\σ[id]?=some (some (.cells e zs))/\off+m<=zs.length/\xs=(zs.drop off).take m
theorem dx.st {σ:ab}{v:AV}{e:TypeId}{xs:List AV}(h:dx σ v e xs):ee σ v e xs:=by
 rcases h with h|h
 .exact .inl h
 .exact .inr (.inr h)
def uw (a b:Nat):AV->AV
 | .row e id off _=>.row e id (off+a) (b-a)
 |v=>v
theorem RH (a b:Nat)(e:TypeId)(id off m:Nat):uw a b (.row e id off m)= .row e id (off+a) (b-a):=rfl
theorem Nz (a b:Nat):uw a b .ar= .ar:=rfl
attribute [go_sem] RH Nz
theorem dx.IT {σ:ab}{e:TypeId}{xs:List AV}{id off m:Nat}{zs:List AV}(h:off+m<=zs.length)(hx:xs=(zs.drop off).take m):xs.length=m:=by
 grind
theorem dx.aa4 {σ:ab}{v:AV}{e:TypeId}{xs:List AV}(h:dx σ v e xs)(A:aa)(lo hi:Option Operand):lP A lo hi v=uw (cW A 0 lo) (cW A xs.length hi) v:=by
 rcases h with⟨rfl,rfl⟩|⟨id,off,m,zs,rfl,h1,h2,h3⟩
 .rfl
 .rw[dx.IT (σ:=σ) (e:=e) (id:=id) h2 h3];rfl
theorem dx.om {P:Program}{gd:Option Bool}{σ:ab}{v:AV}{e:TypeId}{xs:List AV}(h:dx σ v e xs){t:TypeId}(ht:elT P t=some e)(A:aa)(lo hi:Option Operand):kr P gd A t lo hi v=(0<af P e/\Go.Av.om gd A lo hi xs.length):=by
 rcases h with⟨rfl,rfl⟩|⟨id,off,m,zs,rfl,h1,h2,h3⟩
 .rw[tS,ht];simp only[Option.isSome_some,true_and,acV,Go.Av.om,List.length_nil,Nat.le_zero]
  have:imp gd (cW A 0 lo=0/\cW A 0 hi=0)=imp gd (cW A 0 lo<=cW A 0 hi/\cW A 0 hi=0):=by
   congr 1;refine propext ⟨λ⟨h1,h2⟩=>⟨by omega,h2⟩,λ⟨h1,h2⟩=>⟨by omega,h2⟩⟩
  rw[this]
 .rw[wJ,ht,dx.IT (σ:=σ) (e:=e) (id:=id) h2 h3];simp
theorem dx.cut {σ:ab}{v:AV}{e:TypeId}{xs:List AV}(h:dx σ v e xs){a b:Nat}(hab:a<=b)(hb:b<=xs.length):dx σ (uw a b v) e ((xs.drop a).take (b-a)):=by
 rcases h with⟨rfl,rfl⟩|⟨id,off,m,zs,rfl,h1,h2,h3⟩
 .exact .inl ⟨rfl,by simp⟩
 .have hl:=dx.IT (σ:=σ) (e:=e) (id:=id) h2 h3;refine .inr ⟨id,off+a,b-a,zs,rfl,h1,by omega,?_⟩;grind [List.drop_take,List.drop_drop]
theorem pv (a b:Nat)(v:AV):aR (uw a b v)=aR v:=by cases v<;>rfl
theorem dx.keep {st st':ab}{v:AV}{e:TypeId}{xs:List AV}(h:dx st v e xs)(hk: ∀j∈aR v,st'[j]?=st[j]?):dx st' v e xs:=by
 rcases h with h|⟨id,off,m,zs,rfl,h,h2⟩
 .exact .inl h
 .exact .inr ⟨id,off,m,zs,rfl,by grind [aR],h2⟩
theorem dx.lt {st:ab}{v:AV}{e:TypeId}{xs:List AV}(h:dx st v e xs): ∀j∈aR v,j<st.length:=by
 rcases h with⟨rfl,_⟩|⟨id,off,m,zs,rfl,h,_⟩
 .simp[aR]
 grind [aR]
theorem dx.ne {st:ab}{v:AV}{e te:TypeId}{xs ys:List AV}(h:dx st v e xs){id:Nat}(hid:st[id]?=some (some (.cells te ys)))(ht:te≠e):id∉aR v:=λhj=>by
 rcases h with⟨rfl,_⟩|⟨id',off,m,zs,rfl,h,_⟩
 .grind [aR]
 grind [aR]
structure abw (σ:ab)(x:AV)(e:TypeId)(zs:List AV)(v:AV)(σ':ab):Prop where
 row:dx σ' v e zs
 fr:Fr (aR x) σ σ'
 aR: ∀j∈aR v,j∈aR x\/σ.length<=j
theorem bA.Cv {P:Program}{A:aa}{σ:ab}{t u e:TypeId}{x y:AV}{xs ys:List AV}{dst:Option Nat}{k:aa->Prop}(hσ:A.st=σ)(N:Nat)(ho:yO P t u e N=true)(hb:dx σ x e xs)(hy:eV σ y e ys)(hN:xs.length+ys.length<=N)
  (hk: ∀v σ',abw σ x e (xs++ys) v σ'->k ((A.put dst v).ay σ')):bA P [t,u] [x,y] dst A k .mk:=by
 subst hσ;have hkl:(cq x A.st).length=A.st.length:=by unfold cq;grind
 refine bA.row N ho hb.st hy hN (λhe=>hk _ _ ⟨by simp_all,.refl _ _,λj hj=>.inl hj⟩) λhe=>hk _ _ ⟨.inr ⟨A.st.length,0,_,xs++ys,rfl,?_,by simp,by grind⟩,?_,λj hj=>?_⟩
 .simp_all
 .refine Fr.app ?_ _;unfold cq;grind [Fr.set,Fr.refl,aR]
 grind [aR]
theorem Bld.cb {st:ab}{v:AV}{e:TypeId}{xs:List AV}(h:Bld st v e xs):dq v (.sl e xs):=by
 rcases h with⟨rfl,rfl⟩|rfl|⟨t,rfl,_⟩
 .exact .ar _
 .exact .lit _ _
 .exact .own _ _ _
theorem App.fr {σ σ':ab}{x v:AV}{e:TypeId}{zs:List AV}(h:App σ x e zs v σ'):Fr (aR x) σ σ':=⟨h.len,λj hj hF=>h.old j hj λe=>hF (by cases x<;>simp[fJ]at e;grind [aR])⟩
theorem E3 {st:ab}{v:AV}{e:TypeId}{xs:List AV}(h:Bld st v e xs){j:Nat}:j∈aR v↔fJ v=some j:=by
 rcases h with⟨rfl,rfl⟩|rfl|⟨t,rfl,_⟩
 .simp[aR,fJ]
 .simp[aR,fJ]
 grind [aR,fJ]
theorem App.aR {σ σ':ab}{x v:AV}{e:TypeId}{zs xs:List AV}(h:App σ x e zs v σ')(hx:Bld σ x e xs): ∀j∈aR v,j∈aR x\/σ.length<=j:=λj hj=>by
 rw[E3 h.bld]at hj;grind [E3,App.tok]
theorem Bld.keep {st st':ab}{v:AV}{e:TypeId}{xs:List AV}(h:Bld st v e xs)(hk: ∀j∈aR v,st'[j]?=st[j]?):Bld st' v e xs:=by
 rcases h with h|h|⟨t,rfl,h⟩
 .exact .inl h
 .exact .inr (.inl h)
 .exact .inr (.inr ⟨t,rfl,by grind [aR]⟩)
theorem Bld.lt {st:ab}{v:AV}{e:TypeId}{xs:List AV}(h:Bld st v e xs): ∀j∈aR v,j<st.length:=by
 rcases h with⟨rfl,_⟩|rfl|⟨t,rfl,h⟩
 .simp[aR]
 .simp[aR]
 grind [aR]
theorem Bld.ne {st:ab}{v:AV}{e:TypeId}{xs:List AV}(h:Bld st v e xs){id:Nat}{o:bJ}(hid:st[id]?=some (some o))(ho:o≠ .tok):id∉aR v:=λhj=>by
 rcases h with⟨rfl,_⟩|rfl|⟨t,rfl,h⟩
 .grind [aR]
 .grind [aR]
 grind [aR]
theorem ee.keep {st st':ab}{v:AV}{e:TypeId}{xs:List AV}(h:ee st v e xs)(hk: ∀j∈aR v,st'[j]?=st[j]?):ee st' v e xs:=by
 rcases h with h|h|⟨id,off,m,zs,rfl,h,h2⟩
 .exact .inl h
 .exact .inr (.inl h)
 .exact .inr (.inr ⟨id,off,m,zs,rfl,by grind [aR],h2⟩)
theorem ee.lt {st:ab}{v:AV}{e:TypeId}{xs:List AV}(h:ee st v e xs): ∀j∈aR v,j<st.length:=by
 rcases h with⟨rfl,_⟩|rfl|⟨id,off,m,zs,rfl,h,_⟩
 .simp[aR]
 .simp[aR]
 grind [aR]
def Js (M:Nat->Bool)(l:Int):Bool:=if 0<l then M l.natAbs else !M l.natAbs
def zw (M:Nat->Bool)(c:List Int):Bool:=c.any (Js M)
def iD (M:Nat->Bool)(cls:List (List Int)):Bool:=cls.all (zw M)
def wfL (n:Nat)(l:Int):Bool:=decide (l≠0)&&decide (l.natAbs<=n)
def wfC (n:Nat)(c:List Int):Bool:=c.all (wfL n)
theorem Gm {M:Nat->Bool}{l:Int}(h:l≠0):Js M (-l)= !Js M l:=by
 grind [Js]
theorem AF {M:Nat->Bool}{c d:List Int}(h: ∀l,l∈c↔l∈d):zw M c=zw M d:=by
 grind [zw]
end Go.Av
end
section
namespace Go.Proofs.Tryz
open Go Go.Av
set_option maxRecDepth 10000
variable {W0 :World}
theorem Yi {α:Type}(enc:α->AV)(hp: ∀a,dm (enc a))(l:List α)(q:α->Bool)(g:FuncId)(caps:List AV)(σ:ab)(h: ∀a∈l,aS prog W0 g ([enc a]++caps) σ λr σ'=>r= .bool (q a)/\σ'=σ):
  aS prog W0 276 [.sl 190 (l.map enc),.fn g caps] σ λr σ'=>r= .int .i64 (fK q l)/\σ'=σ:=by
 refine lZ [4] [] func276 rfl rfl ntmps276 rfl rfl (.int _ _) λhs=>?_
 have hl:=(aL (hs _ (acI ..))).1;simp only[go_sem,simprocAttr];refine ae.upto [0,1,7] l.length (λi A=>A.env 8= .int .i64 i/\A.st=σ/\ ∀a∈l.take i,q a=false) 0 (acH _) ?_ λi B hi ⟨h8,hst,hI⟩=>?_
 .simp only[go_sem,simprocAttr]
  all_goals simp
 simp only[go_sem,simprocAttr,h8,hst,acG];refine⟨λhc=>⟨hc,?_⟩,λhc=>bz.ret ?_⟩
 .obtain⟨a,ha⟩:=get_some hc;simp only[aw ha,ct (hp a),da (hp a),true_and];refine aj.XW (by simp only[go_sem,simprocAttr,hst]) (h a (acL ha)) ?_;simp only[go_sem,simprocAttr,h8,hst];refine⟨λhq=>bz.ret ?_,λhq=>⟨hc,ag hc hl,?_⟩⟩
  .simp only[go_sem,simprocAttr,hst];exact az (eQ ha hq hI).symm
  rw[ah ha];intro b hb;rcases acO.1 hb with hb|hb
  .exact hI b hb
  .rw[acP.1 hb];exact hq
 .simp only[go_sem,simprocAttr,hst];rw[dr (by rwa [acK hc]at hI)];exact .refl _
theorem XJ {α:Type}(enc:α->AV)(hp: ∀a,dm (enc a))(l:List α)(q:α->Bool)(g:FuncId)(caps:List AV)(σ:ab)(h: ∀a∈l,aS prog W0 g ([enc a]++caps) σ λr σ'=>r= .bool (q a)/\σ'=σ):
  aS prog W0 233 [.sl 190 (l.map enc),.fn g caps] σ λr σ'=>r= .bool (l.any q)/\σ'=σ:=by
 refine lZ [4] [] func233 rfl rfl ntmps233 rfl rfl (.bool _) λhs=>?_
 simp only[go_sem,simprocAttr];refine aj.reads (by simp only[go_sem,simprocAttr]) (Yi enc hp l q g caps σ h) ?_;simp only[go_sem,simprocAttr];refine bz.ret ?_;simp only[go_sem,simprocAttr];rw[jq];exact .refl _
theorem oX (l:Int)(h:l.natAbs<=9223372036854775807):ai prog W0 235 [.int .i64 l] (.int .u64 (l.natAbs:Nat)):=by
 refine ak [2] [] func235 rfl rfl ntmps235 rfl rfl (.int _ _) λhs σ=>?_
 simp only[go_sem,simprocAttr];grind [az,IntKind.wrap_u64]
def fF (c:List Int):AV:=.sl 190 (c.map (.int .i64))
def Ej (l:List (List Int)):AV:=.sl 191 (l.map fF)
theorem dm.int64 (n:Int):dm (AV.int .i64 n):=trivial
theorem dm.lits (c:List Int):dm (fF c):=trivial
@[go_sem] theorem Xx (g:Option Bool)(l:List Int):okM g (fF l)=True:=eq_true trivial
theorem IL (l:List Int):unm (fF l)=fF l:=rfl
theorem Dn (P:Program)(t:TypeId)(l:List Int):bc P t (fF l)=ck P t:=rfl
attribute [go_sem] IL Dn
def xd (n:Nat)(cv:AV):Option bJ:=some (.cells 248 [.agg 248 [.int .i64 n,cv]])
theorem Vv (σ:ab)(id n:Nat)(cv:AV)(hid:σ[id]?=some (xd n cv))(hn:n<=9223372036854775807)(l:Int)(hl:l.natAbs<=9223372036854775807):
  aS prog W0 234 [.int .i64 l,.loc 185 (.ptr 248 id 0 [])] σ λr σ'=>r= .bool (!wfL n l)/\σ'=σ:=by
 refine lZ [3] [] func234 rfl rfl ntmps234 rfl rfl (.bool _) λhs=>?_
 simp only[go_sem,simprocAttr];refine⟨.of (by kernel_rfl),aD.fnG (λ_=>oX l hl) ?_⟩;simp only[go_sem,simprocAttr,an hid];refine bz.ret ?_;simp only[go_sem,simprocAttr];grind [au,IntKind.wrap_u64,wfL]
theorem X4 (σ:ab)(id n:Nat)(cv:AV)(cls:List (List Int))(hid:σ[id]?=some (xd n cv))(hb:Bld σ cv 191 (cls.map fF))(hn:n<=9223372036854775807)(hc5:cls.length<5000)(c:List Int)(hc: ∀l∈c,l.natAbs<=9223372036854775807):
  aS prog W0 193 [.ptr 248 id 0 [],fF c] σ λr σ'=>r= .bool (wfC n c)/\σ'=σ:=by
 refine lZ [4] [2] func193 rfl rfl ntmps193 rfl rfl (.bool _) λhs=>?_
 have h5:decide ((cls.length:Int)<5000)=true:=decide_eq_true (by omega);simp only[go_sem,simprocAttr,an hid,hb.len,hb.fR,acG,h5];refine aD.st (λ_=>XJ (.int .i64) dm.int64 c (λl=>!wfL n l) _ [.loc 185 (.ptr 248 id 0 [])] σ λl hl=>Vv σ id n cv hid hn l (hc l hl)) ?_;simp only[go_sem,simprocAttr];refine bz.ret ?_;simp only[go_sem,simprocAttr];grind [au,wfC]
theorem Gc (σ:ab)(c:List Int)(h0:c≠[])(hl:c.length<=1048576):aS prog W0 236 [fF c] σ λr σ'=>r= .row 190 σ.length 0 c.length/\σ'=σ++[some (.cells 190 (c.map (.int .i64)))]:=by
 refine bZ [2] [] func236 rfl rfl ntmps236 rfl rfl λhs=>?_
 cases c with
 |nil=>simp_all
 |cons x c=>
  simp only[go_sem,simprocAttr,fF];refine bA.row 1048576 (by kernel_rfl) (.inr (.inl rfl)) (.sl _ _ _) (by simp_all) (λh=>by cases h) λ_=>?_
  simp only[go_sem,simprocAttr];refine bz.ret ?_;simp only[go_sem,simprocAttr];exact⟨_,.refl _,by simp[cq],by simp,rfl⟩
def ints (ys:List Int):Option bJ:=some (.cells 190 (ys.map (.int .i64)))
def abx (σ st:ab)(id:Nat)(xs:List Int):Prop:=∃ ys:List Int,ys.Perm xs/\st=σ.set id (ints ys)
def EJ (σ st:ab)(id:Nat)(xs:List Int):Prop:=(∃ys:List Int,ys.Perm xs/\st[id]?=some (ints ys))/\Fr [id] σ st
theorem EJ.of {σ st:ab}{id:Nat}{xs:List Int}(hid:id<σ.length)(h:abx σ st id xs):EJ σ st id xs:=by
 obtain⟨ys,hp,rfl⟩:=h;exact⟨⟨ys,hp,List.getElem?_set_self hid⟩,⟨by simp,λj hj hn=>List.getElem?_set_ne λe=>hn (by simp[e])⟩⟩
theorem EJ.step {σ τ st:ab}{id:Nat}{xs ys:List Int}(h1:Fr [id] σ τ)(hy:ys.Perm xs)(h2:EJ τ st id ys):EJ σ st id xs:=by
 obtain⟨⟨zs,hz,hs⟩,hf⟩:=h2;exact⟨⟨zs,hz.trans hy,hs⟩,⟨adm h1.len hf.len,λj hj hn=>by rw[hf.old j (ac3 hj h1.len) hn,h1.old j hj hn]⟩⟩
theorem Yt (σ:ab)(n:Nat)(hn:n<=200):aS prog W0 123 [.int .i64 n] σ λr σ'=>r= .ptr 248 σ.length 0 []/\σ'=σ++[xd n .ar]:=by
 refine bZ [2] [] func123 rfl rfl ntmps123 rfl rfl λhs=>?_
 have e1:uy (n:Int) 200=n:=by grind [uy]
 have e2:GV 0 (n:Int)=n:=by grind [GV]
 simp only[go_sem,simprocAttr,e1,e2];refine bz.ret ?_;simp only[go_sem,simprocAttr];exact⟨_,.refl _,by simp,rfl,rfl⟩
end Go.Proofs.Tryz
end
section
namespace Go.Av
def Bw (ord:List Int)(l:Int):Int:=if l∈ord then 1 else if-l∈ord then-1 else 0
structure dZ (n:Nat)(ord:List Int):Prop where
 nd:(ord.map Int.natAbs).Nodup
 wf: ∀l∈ord,l≠0/\l.natAbs<=n
theorem dZ.cons {n:Nat}{ord:List Int}(h:dZ n ord){l:Int}(hl:l∈ord): -l∉ord:=λhn=>by
 have h0:=(h.wf l hl).1;obtain⟨i,hi,he⟩:=ade hl;obtain⟨j,hj,he'⟩:=ade hn
 have:i=j:=(List.getElem_inj (i:=i) (j:=j) (h₀:=by simp_all) (h₁:=by simp_all) h.nd).1 (by simp_all);grind
theorem vY (ord:List Int)(l:Int):(Bw ord l=1/\l∈ord)\/(Bw ord l= -1/\l∉ord/\ -l∈ord)\/(Bw ord l=0/\l∉ord/\ -l∉ord):=by
 grind [Bw]
theorem dZ.nil (n:Nat):dZ n []:=⟨by simp,by simp⟩
theorem dZ.app {n:Nat}{ord:List Int}(h:dZ n ord){l:Int}(h0:l≠0)(hn:l.natAbs<=n)(hv:Bw ord l=0):dZ n (ord++[l]):=by
 refine⟨?_,λm hm=>?_⟩
 .grind [dZ.nd,vY]
 .rcases acO.1 hm with h1|h1
  .exact h.wf m h1
  simp_all
theorem dZ.take {n:Nat}{ord:List Int}(h:dZ n ord)(k:Nat):dZ n (ord.take k):=⟨by grind [List.take_sublist,dZ.nd],λl hl=>h.wf l (List.mem_of_mem_take hl)⟩
theorem dZ.sub {n:Nat}{o p:List Int}(h:dZ n p)(hs:o.Sublist p):dZ n o:=⟨adw (hs.map _) h.nd,λl hl=>h.wf l (hs.subset hl)⟩
theorem Gx : ∀(n:Nat) (l:List Nat),l.Nodup->(∀x∈l,x<n)->l.length<=n
 |0,l,_,h=>by
  cases l with
  |nil=>simp
  |cons x l=>exact absurd (h x (by simp)) (by omega)
 |n+1,l,hd,h=>by
  have:=Gx n (l.erase n) (hd.erase n) λx hx=>by
   grind
  grind
theorem dZ.len {n:Nat}{ord:List Int}(h:dZ n ord):ord.length<=n:=by
 have:=Gx (n+1) (0::ord.map Int.natAbs) (ac7.2 ⟨λh0=>by
  obtain⟨l,hl,e⟩:=adn.1 h0;exact(h.wf l hl).1 (Int.natAbs_eq_zero.1 e),h.nd⟩) λx hx=>by
   rcases ac6.1 hx with rfl|hx
   .omega
   .obtain⟨l,hl,rfl⟩:=adn.1 hx;have:=(h.wf l hl).2;omega
 simp_all
def Agr (M:Nat->Bool)(ord:List Int):Prop:=∀ l∈ord,Js M l=true
theorem Agr.neg {M:Nat->Bool}{n:Nat}{ord:List Int}(h:Agr M ord)(hg:dZ n ord){l:Int}(hv:Bw ord l= -1):Js M l=false:=by
 rcases vY ord l with⟨h1,_⟩|⟨_,_,h2⟩|⟨h1,_⟩
 .omega
 .have h0:=(hg.wf _ h2).1;have:=h _ h2;grind [Gm]
 .omega
def Xq (ord c:List Int):Bool:=!c.any λl=>decide (0<=Bw ord l)
end Go.Av
end
section
namespace Go.Proofs.Tryz
open Go Go.Av
set_option maxRecDepth 10000
variable {W0 :World}
variable {σ :ab}{tid vid n:Nat}{cv ov lv:AV}{cls:List (List Int)}{ord:List Int}{lev:List Nat}
theorem dx.at {st:ab}{v:AV}{e:TypeId}{xs:List AV}{i:Nat}{x:AV}(h:dx st v e xs)(hx:xs[i]?=some x): ∃id off m zs,v= .row e id off m/\st[id]?=some (some (.cells e zs))/\m=xs.length/\zs[off+i]?=some x:=by
 rcases h with⟨_,rfl⟩|⟨id,off,m,zs,rfl,h1,h2,h3⟩
 .simp at hx
 grind
structure Own (τ:ab)(tid:Nat)(cv:AV)(vid:Nat)(ov lv:AV):Prop where
 tid:τ.length<=tid
 vid:τ.length<=vid
 cv: ∀j∈aR cv,τ.length<=j
 ov: ∀j∈aR ov,τ.length<=j
 lv: ∀j∈aR lv,τ.length<=j
end Go.Proofs.Tryz
end
section
namespace Go.Av
def OZ (ord:List Int)(stk:List (Nat×Int))(M:Nat->Bool):Prop:=∃ p∈stk,0<p.2/\Agr M (ord.take p.1)/\Js M p.2=true
def vX (n:Nat)(cls:List (List Int))(ord:List Int):Nat->List (Nat×Int)->Prop
 |lo,[]=>lo<=ord.length
 |lo,p::r=>lo<=p.1/\p.1<ord.length/\p.2≠0/\p.2.natAbs<=n/\Bw (ord.take p.1) p.2=0/\cls.any (Xq (ord.take p.1))=false/\vX n cls ord (p.1+1) r
theorem vX.app {n:Nat}{cls:List (List Int)}{ord:List Int}{k:Nat}{d:Int}{o2:List Int}: ∀{lo:Nat} {stk:List (Nat×Int)},vX n cls ord lo stk->(∀i,i<=ord.length->o2.take i=ord.take i)->k=ord.length->k<o2.length->d≠0->d.natAbs<=n->Bw ord d=0->cls.any (Xq ord)=false->vX n cls o2 lo (stk++[(k,d)])
 |lo,[],h,ho,hk,hk2,h0,hn,hv,hc=>by
  have e:o2.take k=ord:=by simp_all
  refine⟨by rw[hk];exact h,hk2,h0,hn,by simp_all,by simp_all,?_⟩;show k+1<=o2.length;omega
 |lo,p::r,⟨h1,h2,h3,h4,h5,h6,h7⟩,ho,hk,hk2,h0,hn,hv,hc=>⟨h1,by omega,h3,h4,by grind,by grind,h7.app ho hk hk2 h0 hn hv hc⟩
theorem vX.le {n:Nat}{cls:List (List Int)}{ord:List Int}: ∀{lo:Nat} {stk:List (Nat×Int)},vX n cls ord lo stk->lo+stk.length<=ord.length
 |lo,[],h=>by grind [vX]
 |lo,p::r,⟨h1,_,_,_,_,_,h7⟩=>by have:=h7.le;grind
theorem OZ.take {ord:List Int}{stk:List (Nat×Int)}{M:Nat->Bool}{k:Nat}(hk: ∀p∈stk,p.1<=k)(h:OZ ord stk M):OZ (ord.take k) stk M:=by
 obtain⟨p,h1,h2,h3,h4⟩:=h;exact⟨p,h1,h2,by grind,h4⟩
theorem OZ.more {ord o2:List Int}{stk:List (Nat×Int)}{M:Nat->Bool}(ho: ∀p∈stk,o2.take p.1=ord.take p.1)(h:OZ ord stk M)(q:List (Nat×Int)):OZ o2 (stk++q) M:=by
 obtain⟨p,h1,h2,h3,h4⟩:=h;exact⟨p,by simp[h1],h2,by grind,h4⟩
end Go.Av
end
section
namespace Go.Proofs.Tryz
open Go Go.Av
set_option maxRecDepth 10000
variable {W0 :World}
variable {τ σ:ab}{xid tid vid n:Nat}{cv ov lv dv:AV}{z:Int}{cls:List (List Int)}{ord dec asm:List Int}{lev lev0:List Nat}{stk:List (Nat×Int)}{base:Nat}
structure W4 (n:Nat)(cls:List (List Int)):Prop where
 small:n<=200
 len:cls.length<=5000
 wf: ∀c∈cls,c≠[]/\c.length<=1048576/\ ∀l∈c,l≠0/\l.natAbs<=n
theorem Vd {n:Nat}{l:Int}:wfL n l=true↔l≠0/\l.natAbs<=n:=by simp[wfL]
end Go.Proofs.Tryz
end
section
namespace Go.Av
def fQ (i:Nat):Int:=((i+1:Nat):Int)
def jI (c:Clause):Nat->List Pkg->List Int
 |_,[]=>[]
 |i,q::r=>(if c.any (c8 q)=true then [fQ i]else [])++jI c (i+1) r
def yJ (all:List Pkg)(i:Nat)(c:Clause):List Int:=-fQ i::jI c 0 all
def Dw (p:Pkg)(i:Nat):Nat->List Pkg->List (List Int)
 |_,[]=>[]
 |k,q::r=>(if (p.name==q.name||fH p q)=true then [[-fQ i,-fQ k]]else [])++Dw p i (k+1) r
def Yw (all:List Pkg)(i:Nat)(p:Pkg):List (List Int):=(p.pre++p.dep).map (yJ all i)++Dw p i 0 (all.take i)
def uI (all:List Pkg):Nat->List Pkg->List (List Int)
 |_,[]=>[]
 |i,p::r=>Yw all i p++uI all (i+1) r
theorem AZ {c:Clause}: ∀{i:Nat} {l:List Pkg} {x:Int},x∈jI c i l-> ∃k q,l[k]?=some q/\x=fQ (i+k)
 |i,[],x,h=>by grind [jI]
 |i,q::r,x,h=>by
  rw[jI,acO]at h;rcases h with h|h
  .split at h
   .simp at h;exact⟨0,q,rfl,by omega⟩
   simp_all
  .obtain⟨k,q',h1,h2⟩:=AZ h;exact⟨k+1,q',by simp_all,by grind⟩
theorem oC {c:Clause}: ∀(i:Nat) (l:List Pkg),(jI c i l).Nodup/\ ∀x∈jI c i l,fQ i<=x
 |i,[]=>by simp[jI]
 |i,q::r=>by
  obtain⟨h1,h2⟩:=oC (c:=c) (i+1) r;grind [jI,fQ]
theorem AE {c:Clause}: ∀(i:Nat) (l:List Pkg),(jI c i l).length<=l.length
 |i,[]=>by simp[jI]
 |i,q::r=>by
  have:=AE (c:=c) (i+1) r;grind [jI]
theorem zL {p:Pkg}{i:Nat}: ∀(l:List Pkg) (j k:Nat) (q:Pkg),l[k]?=some q->Dw p i j (l.take (k+1))=Dw p i j (l.take k)++(if (p.name==q.name||fH p q)=true then [[-fQ i,-fQ (j+k)]]else [])
 |[],j,k,q,h=>by simp at h
 |p'::r,j,0,q,h=>by
  grind [Dw]
 |p'::r,j,k+1,q,h=>by
  rw[acS,acS,Dw,Dw,zL r (j+1) k q (by simp_all),ado];grind
theorem zO (all:List Pkg): ∀(l:List Pkg) (j k:Nat) (p:Pkg),l[k]?=some p->uI all j (l.take (k+1))=uI all j (l.take k)++Yw all (j+k) p
 |[],j,k,p,h=>by simp at h
 |q::r,j,0,p,h=>by
  grind [uI]
 |q::r,j,k+1,p,h=>by
  rw[acS,acS,uI,uI,zO all r (j+1) k p (by simp_all),ado];grind
theorem wz (M:Nat->Bool)(a b:List (List Int)):iD M (a++b)=(iD M a&&iD M b):=by simp[iD]
theorem dK {all:List Pkg}(h:aY all=0):all.length<=24:=by
 grind [aY]
theorem iA : ∀{l:List Int},orL l=0-> ∀x∈l,x=0
 |[],_,x,hx=>by simp at hx
 |y::r,h,x,hx=>by
  rw[orL]at h;split at h
  .omega
  .rename_i hy;rcases ac6.1 hx with rfl|hx
   .omega
   .exact iA h x hx
theorem dT {all:List Pkg}(h:aY all=0){p:Pkg}(hp:p∈all):aT p=0:=by
 unfold aY at h;split at h
 .omega
 .split at h
  .omega
  .rename_i h1;exact iA (adz.1 h1) _ (adn.2 ⟨p,hp,rfl⟩)
theorem N2 {l:List Clause}(h:cU l=0):l.length<=12:=by
 grind [cU]
theorem vF {p:Pkg}(h:aT p=0):p.pre.length<=12/\p.dep.length<=12:=by
 unfold aT at h;split at h
 .omega
 .have:=iA h;simp_all[N2]
theorem Ei (i:Nat):0<fQ i:=by simp[fQ]
theorem Ef (i:Nat):(fQ i).natAbs=i+1:=by grind [fQ]
theorem U6 {all:List Pkg}{i:Nat}(hi:i<all.length)(c:Clause):wfC all.length (yJ all i c)=true/\(yJ all i c).Nodup/\(yJ all i c).length<=all.length+1:=by
 refine⟨List.all_eq_true.2 λl hl=>?_,?_,?_⟩
 .have:l≠0/\l.natAbs<=all.length:=by
   rcases ac6.1 hl with rfl|hl
   .grind [Ef]
   grind [AZ,Ef]
  grind [wfL]
 .refine ac7.2 ⟨λh=>?_,(oC _ _).1⟩;have:=(oC (c:=c) 0 all).2 _ h;have:=Ei i;have:=Ei 0;omega
 simp[AE,yJ]
theorem Wd {n i k:Nat}(hi:i<n)(hk:k<i):wfC n [-fQ i,-fQ k]=true/\[-fQ i,-fQ k].Nodup:=by
 grind [wfC,wfL,fQ]
structure dL (σ st:ab)(v:AV)(e:TypeId)(xs:List AV):Prop where
 row:(v= .ar/\xs=[])\/ ∃id,v= .row e id 0 xs.length/\st[id]?=some (some (.cells e xs))/\σ.length<=id
 ext:Ext σ st
theorem dL.nil {σ st:ab}(h:Ext σ st)(e:TypeId):dL σ st .ar e []:=⟨.inl ⟨rfl,rfl⟩,h⟩
theorem dL.st {σ st:ab}{v:AV}{e:TypeId}{xs:List AV}(h:dL σ st v e xs):ee st v e xs:=by
 rcases h.row with h|⟨id,rfl,h1,_⟩
 .exact .inl h
 .exact .inr (.inr ⟨id,0,_,xs,rfl,h1,by simp,by simp⟩)
theorem dL.more {σ st:ab}{v:AV}{e:TypeId}{xs:List AV}(h:dL σ st v e xs)(l:ab):dL σ (st++l) v e xs:=by
 refine⟨?_,h.ext.app l⟩;grind [dL.row]
theorem bA.out {P:Program}{A:aa}{σ:ab}{t u e:TypeId}{x y:AV}{xs ys:List AV}{dst:Option Nat}{k:aa->Prop}(N:Nat)(ho:yO P t u e N=true)(h:dL σ A.st x e xs)(hy:eV A.st y e ys)(hN:xs.length+ys.length<=N)
  (hk: ∀v st',dL σ st' v e (xs++ys)->k ((A.put dst v).ay st')):bA P [t,u] [x,y] dst A k .mk:=by
 have hkl:(cq x A.st).length=A.st.length:=by unfold cq;grind
 refine bA.row N ho h.st hy hN (λhe=>hk _ _ (by simp_all)) λhe=>hk _ _ ⟨.inr ⟨A.st.length,by simp,?_,h.ext.le⟩,?_⟩
 .simp_all
 .refine Ext.app ?_ _;rcases h.row with⟨rfl,_⟩|⟨id,rfl,_,h3⟩
  .exact h.ext
  .exact h.ext.set h3 _
theorem dL.Uc {A:aa}{σ:ab}{v:AV}{e:TypeId}{xs:List AV}{d:Nat}{x:Exit}{R:aa->Prop}(h:dL σ A.st v e xs)(hd:A.env d=v)
  (h0:v= .ar->xs=[]->bz R x A) (h1: ∀id,bz R x ((A.upd d (.sl e xs)).ay (A.st.set id none))\/ ¬(σ.length<=id/\A.env d= .row e id 0 xs.length)):bz R x A:=by
 grind [dL.row,bz.frz]
end Go.Av
end
section
namespace Go.Proofs.Tryz
open Go Go.Av
set_option maxRecDepth 10000
variable {W0 :World}
structure Rep where
 name:List UInt8
 ver:List UInt8
 can:Bool
 acB:List Nat
 never:List Nat
def nV (l:List Nat):AV:=.sl 3 (l.map λk=>.int .i64 (k:Nat))
end Go.Proofs.Tryz
end
section
namespace Go.Av
open Go
def eqK (P:Program)(ty:TypeId):Nat:=match P.underlying ty with|some (.int _)=>1|some .string=>2|some .bool=>3|_=>0
def ve (P:Program)(t:TypeId):Option (List Nat):=match P.underlying t with
 | some (.struct fl) => if fl.toList.all (fun f => f.name != "_") && (!P.stoodInHeld t && !P.eqGuardType P.depth t) then (bt P t).map fun ts => ts.map (eqK P) else none
 |_=>none
def IC :Nat->AV->AV->Option Bool
 |1,.int k a,.int k' b=>if k=k' then some (a==b)else none
 |2,.str a,.str b=>some (a==b)
 |3,.bool a,.bool b=>some (a==b)
 |_,_,_=>none
def yX :List Nat->List AV->List AV->Option Bool
 |[],[],[]=>some true
 |ty::ts,x::xs,y::ys=>(IC ty x y).bind λb=>(yX ts xs ys).map λc=>b&&c
 |_,_,_=>none
theorem aak (P:Program)(ty:TypeId)(x y:AV):eq1 P ty x y=IC (eqK P ty) x y:=by
 unfold eq1 eqK;cases h:P.underlying ty with
 |none=>cases x<;>cases y<;>rfl
 |some u=>cases u<;>cases x<;>cases y<;>rfl
theorem Jz (P:Program): ∀(ts:List TypeId) (xs ys:List AV),sv P ts xs ys=yX (ts.map (eqK P)) xs ys
 |[],[],[]=>rfl
 |[],[],_::_=>rfl
 |[],_::_,[]=>rfl
 |[],_::_,_::_=>rfl
 |_::_,[],[]=>rfl
 |_::_,[],_::_=>rfl
 |_::_,_::_,[]=>rfl
 |ty::ts,x::xs,y::ys=>by
  simp only[sv,adf,yX,aak,Jz P ts xs ys]
theorem uS {P:Program}{t:TypeId}{ks:List Nat}(h:ve P t=some ks)(fs gs:List AV):kR P t fs gs=yX ks fs gs:=by
 grind [ve,kR,bt,Jz]
end Go.Av
end
section
namespace Go.Proofs.Tryz
open Go Go.Av
set_option maxRecDepth 10000
variable {W0 :World}
theorem kc {α:Type}{a b:List α}{i:Nat}{x:α}(h:a.take i=b.take i)(hx:a[i]?=some x)(hy:b[i]?=some x):a.take (i+1)=b.take (i+1):=by
 simp_all[ah]
theorem sK {α:Type}{a b:List α}{i:Nat}{x y:α}(hx:a[i]?=some x)(hy:b[i]?=some y)(h:x≠y):a≠b:=by
 grind
theorem vL :ve prog 76=some [2,1,2]:=by kernel_rfl
theorem vm :ve prog 179=some [2,2]:=by kernel_rfl
@[go_sem] theorem aaW (a b:Atom):cZ prog .neq 76 (aV a) (aV b)= .bool (!decide (a=b)):=by
 obtain⟨a1,a2,a3⟩:=a;obtain⟨b1,b2,b3⟩:=b;simp only[aV,Al,uS vL,yX,IC,if_true,ads,acY,acV,Atom.mk.injEq,adu];congr 1;grind
@[go_sem] theorem aaB (a b:Atom):dd prog .neq 76 (aV a) (aV b)=True:=by
 simp[aV,AD,uS vL,yX,IC]
@[go_sem] theorem aap (a b:jx):cZ prog .neq 179 (dJ a) (dJ b)= .bool (!decide (a=b)):=by
 obtain⟨a1,a2⟩:=a;obtain⟨b1,b2⟩:=b;simp only[dJ,Al,uS vm,yX,IC,ads,acY,acV,jx.mk.injEq,adu];congr 1;grind
@[go_sem] theorem abl (a b:jx):dd prog .neq 179 (dJ a) (dJ b)=True:=by
 simp[dJ,AD,uS vm,yX,IC]
def atL (all:List Pkg)(t:List Nat):List Pkg:=t.filterMap λi=>all[i]?
def zG (p q:Pkg):Bool:=Op.bytesLess q.name p.name||(q.name==p.name&&decide (0<=bO q.ver p.ver))
def uB (p:Pkg)(out:List Pkg):List Pkg:=out.takeWhile (zG p)++p::out.dropWhile (zG p)
def cV (l:List Pkg):List Pkg:=l.foldl (λo p=>uB p o) []
theorem Jm {l:List Pkg}{i:Nat}{p:Pkg}(h:l[i]?=some p):cV (l.take (i+1))=uB p (cV (l.take i)):=by
 simp_all[cV,ah]
theorem tm (p:Pkg)(o:List Pkg):(uB p o).Perm (p::o):=by
 grind [uB,List.takeWhile_append_dropWhile]
theorem eE (l:List Pkg):(cV l).Perm l:=by
 have key: ∀(l o:List Pkg),(l.foldl (λo p=>uB p o) o).Perm (o++l):=λl=>by
  induction l with
  |nil=>simp_all
  |cons p l ih=>
   grind [tm]
 have h:=key l [];rw[List.nil_append]at h;exact h
theorem gW {α:Type}{f:α->Bool}: ∀{l:List α} {a:Nat},(∀k x,k<a->l[k]?=some x->f x=true)->(∀x,l[a]?=some x->f x=false)->l.takeWhile f=l.take a/\l.dropWhile f=l.drop a
 |[],a,_,_=>by simp
 |x::l,0,_,h=>by
  simp_all
 |x::l,a+1,h,h2=>by
  have hx:=h 0 x (by omega) rfl;obtain⟨e1,e2⟩:=gW (l:=l) (a:=a) (λk y hk hy=>h (k+1) y (by omega) (by simp_all)) (λy hy=>h2 y (by simp_all));simp_all
structure dL (σ st:ab)(v:AV)(e:TypeId)(xs:List AV):Prop where
 row:dx st v e xs
 ext:Ext σ st
 low: ∀j∈aR v,σ.length<=j
theorem dL.nP {σ st:ab}{v:AV}{e:TypeId}{xs:List AV}(h:dL σ st v e xs):fA σ st v e xs:=⟨h.row.st,h.ext,λid hid=>h.low id (by cases v<;>simp[Xa]at hid;grind [aR])⟩
theorem dL.app {σ st st':ab}{x v:AV}{e:TypeId}{xs zs:List AV}(h:dL σ st x e xs)(ha:abw st x e zs v st'):dL σ st' v e zs:=⟨ha.row,ha.fr.ug h.ext h.low,λj hj=>by
 rcases ha.aR j hj with h1|h1
 .exact h.low j h1
 .exact adm h.ext.le h1⟩
theorem dL.nil {σ st:ab}(h:Ext σ st)(e:TypeId):dL σ st .ar e []:=⟨.inl ⟨rfl,rfl⟩,h,λj hj=>by grind [aR]⟩
theorem dL.more {σ st:ab}{v:AV}{e:TypeId}{xs:List AV}(h:dL σ st v e xs)(l:ab):dL σ (st++l) v e xs:=⟨h.row.keep λj hj=>by rw[ac4 (h.row.lt j hj)],h.ext.app l,h.low⟩
theorem IH (l:List Pkg)(hl:l.length<=1024):ai prog W0 56 [aI l] (aI (cV l)):=by
 refine jJ [2] [5,2000053,2000056,2000060,2000003] func56 rfl rfl ntmps56 rfl rfl (kL _) λhs σ=>?_
 have ht:elT prog 23=some 51:=by kernel_rfl
 simp only[go_sem,simprocAttr,aI];refine ae.at [7,8] (λA=>∃ v,A.env 3=v/\dL σ A.st v 51 ((cV l).map ax)) ?_ λB ⟨v,h3,hb⟩=>?_
 .refine ae.upto [7,8] l.length (λi A=>∃ v,A.env 3=v/\A.env 9= .int .i64 i/\dL σ A.st v 51 ((cV (l.take i)).map ax)) 0 (acH _) ?_ λi B hi ⟨v,h3,h9,hb⟩=>?_
  .simp only[go_sem,simprocAttr];exact⟨_,rfl,dL.nil (.refl _) _⟩
  have hok:=hb.nP.ok;have hun:=hb.nP.un;simp only[go_sem,simprocAttr,h3,h9,acG];refine⟨λhc=>?_,λhc=>?_⟩
  .obtain⟨p,hp⟩:=get_some hc;have ho:(cV (l.take i)).length<=1024:=by rw[(eE _).length_eq,List.length_take];omega
   obtain⟨o,hoo⟩: ∃o,o=cV (l.take i):=⟨_,rfl⟩;rw[<-hoo]at hb ho;have hb':=hb.more [none];have hlen:oA v= .int .i64 o.length:=by rw[hb.row.st.len,acG]
   have hlc:=λt=>hb.row.st.fR prog t
   simp only[go_sem,simprocAttr,aw hp,ax];refine⟨hc,ae.at [3,5,7,8,9] (λA=>∃ a:Nat,A.env 6= .int .i64 a/\a<=o.length/\A.st=B.st++[none]/\(∀k x,k<a->o[k]?=some x->zG p x=true)/\(∀x,o[a]?=some x->zG p x=false)) ?_ λC ⟨a,h6,hle,hst,hI,hJ⟩=>?_⟩
   .refine ae.upto [3,5,7,8,9] o.length (λa A=>A.env 6= .int .i64 a/\A.st=B.st++[none]/\(∀k x,k<a->o[k]?=some x->zG p x=true)) 0 (acH _) ?_ λa C hle ⟨h6,hst,hI⟩=>?_
    .simp only[go_sem,simprocAttr]
    by_cases hlt:a<o.length
    .obtain⟨q,hq⟩:=get_some hlt;have hok2:=hok;rcases hb'.row with⟨rfl,h0⟩|⟨id,off,m,zs,rfl,g1,g2,g3⟩
     .simp_all
     have hm:m=o.length:=by rw[<-dx.IT (σ:=B.st) (e:=51) (id:=id) g2 g3,acG]
     have hz:zs[off+a]?=some (ax q):=by
      have h1:((zs.drop off).take m)[a]?=some (ax q):=by grind
      simp_all
     have hk0:Av.look C.st id (off+a) [0]=some (.str q.name):=by
      rw[hst];unfold Av.look;rw[g1];simp only[hz,acY];rfl
     have hk1:Av.look C.st id (off+a) [1]=some (.str q.ver):=by
      rw[hst];unfold Av.look;rw[g1];simp only[hz,acY];rfl
     have hlv:live C.st id:=by grind [aP]
     simp only[go_sem,simprocAttr,h3,h6,hm,hk0,hk1,hlv,hlt];refine⟨.of (by kernel_rfl),aD.fnG (λ_=>mM q.ver p.ver) ?_⟩;simp only[go_sem,simprocAttr,h6,hlt];refine⟨λhb1=>⟨ag hlt (by grind [aq]),hst,λk x hk hx=>?_⟩,λhb0=>⟨a,rfl,hle,hst,hI,λx hx=>?_⟩⟩
     .rcases acT.1 hk with h|rfl
      .grind
      .rw[hq]at hx;cases hx;exact hb1
     .rw[hq]at hx;cases hx;exact hb0
    .simp only[go_sem,simprocAttr,h3,h6,hok,hun,hlen,hlc,hlt];refine⟨.of (by kernel_rfl),aD.fnG (r:=.int .i64 0) (λh=>(Bool.false_ne_true h).elim) ?_⟩;simp only[go_sem,simprocAttr,h6,hlt];grind
   have hrow:dx C.st v 51 (o.map ax):=by grind [dL.row]
   have hle':a<=(o.map ax).length:=by simp_all
   have hc1:=hrow.cut (acH a) hle';have hc2:=hrow.cut hle' (ada _);rw[acG]at hc2;have q1:=hc1.st.ok;have q2:=hc1.st.un;have q3:=hc2.st.ok;have q4:=hc2.st.un;simp only[go_sem,simprocAttr,h3,h6,hok,hun,hrow.aa4,hrow.om ht,hle,acG,q1,q2];refine⟨.of (by kernel_rfl),acH _,bA.Cv (σ:=C.st) (by simp only[go_sem,simprocAttr]) 1048576 (by kernel_rfl) (.inl ⟨rfl,rfl⟩) hc1.st.read (by grind) λv1 σ1 ha1=>?_⟩;have q5:=ha1.row.st.ok;have q6:=ha1.row.st.un;simp only[go_sem,simprocAttr,q5,q6];refine bA.Cv (σ:=σ1) (by simp only[go_sem,simprocAttr]) 1048576 (by kernel_rfl) ha1.row (.lit _ _ _) (by grind) λv2 σ2 ha2=>?_
   have q7:=ha2.row.st.ok;have q8:=ha2.row.st.un;have hk:dx σ2 (uw a o.length v) 51 _:=hc2.keep λj hj=>by
    rw[pv]at hj;have hj1:=hrow.lt j hj;have hj2:j∉aR v1:=λh=>by
     rcases ha1.aR j h with h|h
     .grind [aR]
     .omega
    rw[ha2.fr.old j (ac3 hj1 ha1.fr.len) hj2,ha1.fr.old j hj1 (by simp[aR])]
   simp only[go_sem,simprocAttr,q3,q4,q7,q8];refine bA.Cv (σ:=σ2) (by simp only[go_sem,simprocAttr]) 1048576 (by kernel_rfl) ha2.row hk.st.read (by grind) λv3 σ3 ha3=>?_
   have q9:=ha3.row.st.ok;have q10:=ha3.row.st.un;simp only[go_sem,simprocAttr,h9];refine⟨hc,_,rfl,ag hc (by grind [aq]),?_⟩;have hx:Ext σ C.st:=by grind [dL.ext]
   have hfin:=(((dL.nil hx 51).app ha1).app ha2).app ha3;rw[Jm hp,<-hoo,uB,(gW hI hJ).1,(gW hI hJ).2];simp_all[ax,acK]
  grind
 simp only[go_sem,simprocAttr,h3];exact fA.Uc (hb.nP) (.inl rfl) (by simp only[go_sem,simprocAttr])
def aQ (all:List Pkg)(i:Nat):Nat:=match all[i]? with
 |some p=>i+((all.drop i).takeWhile λq=>q.name==p.name).length
 |none=>i
def ec (all:List Pkg):Nat->Nat->List Nat->List (List Nat)
 |0,_,t=>if dh (atL all t)=true then [t]else []
 |f+1,i,t=>if i=all.length then(if dh (atL all t)=true then [t]else [])else((List.range' i (aQ all i-i)).flatMap λk=>ec all f (aQ all i) (t++[k]))++ec all f (aQ all i) t
theorem lL (all:List Pkg)(f:Nat)(t:List Nat):ec all f all.length t=if dh (atL all t)=true then [t]else []:=by
 cases f<;>simp[ec]
theorem j8 (u v:AV):oJ false u v=v:=by
 unfold oJ oq;grind [xC]
inductive yp :List AV->List AV->Prop
 |nil:yp [] []
 |cons {x y:AV} {xs ys:List AV}:Sub x y->yp xs ys->yp (x::xs) (y::ys)
theorem yp.append {a b c d:List AV}(h:yp a b)(k:yp c d):yp (a++c) (b++d):=by
 induction h with
 |nil=>exact k
 |cons h1 _ ih=>exact .cons h1 ih
theorem yp.get {a b:List AV}(h:yp a b):a.length=b.length/\ ∀(i:Nat) (x y:AV),a[i]?=some x->b[i]?=some y->Sub x y:=by
 induction h with
 |nil=>simp_all
 |cons h1 _ ih=>
  grind
theorem yp.sl {a b:List AV}(h:yp a b)(e:TypeId):Sub (.sl e a) (.sl e b):=.sls h.get.1 h.get.2
theorem KW {α:Type}{f:α->Bool}: ∀{l:List α} {k:Nat},k<=(l.takeWhile f).length->(∀x,l[k]?=some x->f x=true->k<(l.takeWhile f).length)/\(∀x,l[k]?=some x->f x=false->k=(l.takeWhile f).length)/\(l.length<=k->k=(l.takeWhile f).length)
 |[],k,h=>by simp_all
 |a::l,k,h=>by
  cases hf:f a with
  |false=>
   simp_all
  |true=>
   simp[hf]at h ⊢;cases k with
   |zero=>simp[hf]
   |succ k=>
    obtain⟨h1,h2,h3⟩:=KW (f:=f) (l:=l) (k:=k) (by omega);grind
theorem ot {all:List Pkg}{i k:Nat}{p:Pkg}(hp:all[i]?=some p)(hk:k<=aQ all i-i):
  (∀q,all[i+k]?=some q->q.name=p.name->k<aQ all i-i)/\(∀q,all[i+k]?=some q-> ¬q.name=p.name->i+k=aQ all i)/\(all.length<=i+k->i+k=aQ all i):=by
 have hr:aQ all i=i+((all.drop i).takeWhile λq=>q.name==p.name).length:=by grind [aQ]
 rw[hr]at hk ⊢;rw[Nat.add_sub_cancel_left]at hk ⊢;obtain⟨h1,h2,h3⟩:=KW hk;grind
theorem dR {all:List Pkg}{i:Nat}{p:Pkg}(hp:all[i]?=some p):i<aQ all i/\aQ all i<=all.length:=by
 have h0:=(ot hp (acH _)).1 p hp rfl;grind [aQ,List.takeWhile_sublist]
theorem room {d m:Nat}:(d+1)*2^m<=2^(d+m):=by
 rw[Nat.pow_add];exact Nat.mul_le_mul_right _ (Nat.lt_two_pow_self)
structure NOk (all:List Pkg)(N:Nat->Nat):Prop where
 one:1<=N all.length
 step: ∀i p,all[i]?=some p->(aQ all i-i+1)*N (aQ all i)<=N i
theorem NOk.two (all:List Pkg):NOk all λi=>2^(all.length-i):=⟨Nat.one_le_two_pow,λi p hp=>by
 obtain⟨b1,b2⟩:=dR hp;have hroom:=room (d:=aQ all i-i) (m:=all.length-aQ all i);grind⟩
def Xo (all:List Pkg)(j:Nat):Option (List UInt8):=(all[j]?).map λp=>p.name
end Go.Proofs.Tryz
end
section
namespace Go.Av
structure Ko (all:List Pkg)(S:Nat->Bool):Prop where
 dep: ∀(i:Nat) (p:Pkg),all[i]?=some p->S i=true-> ∀c∈p.pre++p.dep,∃(k:Nat) (q:Pkg),all[k]?=some q/\c.any (c8 q)=true/\S k=true
 con: ∀(i:Nat) (p:Pkg) (k:Nat) (q:Pkg),all[i]?=some p->all[k]?=some q->k<i->S i=true->S k=true->p.name≠q.name/\fH p q=false
def vD (d:List Clause):Bool:=decide (d.length<=14)&&d.all λc=>decide (c.length<=10)
def sx (i:Nat)(p:Pkg):Bool:=decide (i<26)&&decide (p.con.length+p.brk.length+p.eN.length<=40)&&[p.pre,p.dep,p.rcm].all vD
def jY :Nat->List Pkg->Bool
 |_,[]=>true
 |i,p::r=>sx i p&&jY (i+1) r
theorem x0 : ∀{i:Nat} {l:List Pkg},jY i l=true-> ∀p∈l,p.con.length+p.brk.length+p.eN.length<=40
 |_,[],_,p,hp=>by simp at hp
 |i,q::r,h,p,hp=>by
  rw[jY,acQ]at h;rcases ac6.1 hp with rfl|hp
  .grind [sx]
  .exact x0 h.2 p hp
def F7 {α β:Type}(f:α->β->Bool):List α->List β->Bool
 |[],[]=>true
 |x::xs,y::ys=>f x y&&F7 f xs ys
 |_,_=>false
theorem rR {α β:Type}{f:α->β->Bool}: ∀{xs:List α} {ys:List β},F7 f xs ys=true->xs.length=ys.length/\ ∀(i:Nat) (x:α) (y:β),xs[i]?=some x->ys[i]?=some y->f x y=true
 |[],[],_=>⟨rfl,by simp⟩
 |[],_::_,h=>by grind [F7]
 |_::_,[],h=>by grind [F7]
 |x::xs,y::ys,h=>by
  rw[F7,acQ]at h;obtain⟨h1,h2⟩:=rR h.2;grind
def Lx :Nat->AV->AV->Bool
 |0,_,_=>false
 |n+1,x,y=>match x,y with
  | .int k a,.int k' b=>decide (k=k')&&a==b
  | .bool a,.bool b=>a==b
  | .str a,.str b=>a==b
  | .nil,.nil=>true
  | .ar,.ar=>true
  | .ar,.sl _ []=>true
  | .sl e xs,.sl e' ys=>e==e'&&F7 (Lx n) xs ys
  | .lit e xs,.sl e' ys=>e==e'&&F7 (Lx n) xs ys
  | .agg t xs,.agg t' ys=>t==t'&&F7 (Lx n) xs ys
  |_,_=>false
theorem ja : ∀{n:Nat} {x y:AV},Lx n x y=true->Sub x y
 |0,_,_,h=>by grind [Lx]
 |n+1,x,y,h=>by
  unfold Lx at h;split at h
  .simp only[acQ,decide_eq_true_eq,beq_iff_eq]at h;rw[h.1,h.2];exact .refl _
  .rw[beq_iff_eq.1 h];exact .refl _
  .rw[beq_iff_eq.1 h];exact .refl _
  .exact .refl _
  .exact .refl _
  .exact .ar _
  .rw[acQ,beq_iff_eq]at h;obtain⟨rfl,h⟩:=h;obtain⟨h1,h2⟩:=rR h;exact .sls h1 λi x y hx hy=>ja (h2 i x y hx hy)
  .rw[acQ,beq_iff_eq]at h;obtain⟨rfl,h⟩:=h;obtain⟨h1,h2⟩:=rR h;exact .trans (.lits h1 λi x y hx hy=>ja (h2 i x y hx hy)) (.lit _ _)
  .rw[acQ,beq_iff_eq]at h;obtain⟨rfl,h⟩:=h;obtain⟨h1,h2⟩:=rR h;exact .agg h1 λi x y hx hy=>ja (h2 i x y hx hy)
  .cases h
def XU (all:List Pkg)(i:Nat):Prop:=∃ S,Ko all S/\S i=true
def ab9 (all:List Pkg)(i j:Nat):Prop:=∃ S,Ko all S/\S i=true/\S j=true
def abU (all:List Pkg)(i j:Nat):Prop:=∃ S,Ko all S/\S i=true/\S j=false
structure nD (all:List Pkg)(i j:Nat):Prop where
 ne:i≠j
 can:XU all i
 not: ¬abU all i j
structure wT (all:List Pkg)(i j:Nat):Prop where
 ne:i≠j
 can:XU all i
 Z0:XU all j
 not: ¬ab9 all i j
theorem nD.sel {all:List Pkg}{i j:Nat}(h:nD all i j){S:Nat->Bool}(hS:Ko all S)(hi:S i=true):S j=true:=by
 cases hj:S j with
 |true=>rfl
 |false=>exact absurd ⟨S,hS,hi,hj⟩ h.not
theorem nD.trans {all:List Pkg}{i j k:Nat}(h:nD all i j)(h':nD all j k)(hk:k≠i):nD all i k:=
 ⟨λe=>hk e.symm,h.can,λ⟨_,hS,hi,hk⟩=>by grind [nD.sel]⟩
theorem nD.never {all:List Pkg}{i j k:Nat}(h:nD all i j)(h':wT all j k):wT all i k:=by
 refine⟨λe=>?_,h.can,h'.Z0,λ⟨S,hS,hi,hk⟩=>h'.not ⟨S,hS,h.sel hS hi,hk⟩⟩;subst e;obtain⟨S,hS,hi⟩:=h.can;exact h'.not ⟨S,hS,h.sel hS hi,hi⟩
theorem wT.symm {all:List Pkg}{i j:Nat}(h:wT all i j):wT all j i:=
 ⟨λe=>h.ne e.symm,h.Z0,h.can,λ⟨S,hS,hj,hi⟩=>h.not ⟨S,hS,hi,hj⟩⟩
theorem qA (p q:Pkg):fH p q=fH q p:=by
 grind [fH]
theorem oa (a b:Int):sgn b a= -sgn a b:=by
 grind [sgn]
theorem sI (a b:List UInt8):cE a b=if rk a=0/\rk b=0 then 0 else if rk a=rk b then cE a.tail b.tail else sgn (rk a) (rk b):=by
 grind [lA,gR,ei]
theorem tY : ∀(n:Nat) (a b:List UInt8),a.length<=n->cE b a= -cE a b
 |0,a,b,h=>by
  grind [sI,rk,oa]
 |n+1,a,b,h=>by
  rw[sI b,sI a];by_cases h1:rk a=0/\rk b=0
  .omega
  .rw[if_neg h1,if_neg (λe=>h1 ⟨e.2,e.1⟩)];by_cases h2:rk a=rk b
   .have ha:rk a≠0:=λe=>h1 ⟨e,by omega⟩
    obtain⟨c,r,rfl,_⟩:=FX ha;rw[if_pos h2,if_pos h2.symm];exact tY n r b.tail (by simp_all)
   grind [oa]
theorem zQ : ∀(a b:List UInt8),iN b a= -iN a b
 |[],b=>by cases b<;>rfl
 |x::a,[]=>rfl
 |x::a,y::b=>by
  unfold iN;by_cases h:x=y
  .rw[if_pos h,if_pos h.symm];exact zQ a b
  grind [oa]
theorem vP {a b:List UInt8}(h: ¬(a=[]/\b=[])):bw a b=if cE a b≠0 then cE a b
  else if bW (bf a)≠bW (bf b)then sgn (bW (bf a)) (bW (bf b))
  else if iN ((bf a).take (bW (bf a))) ((bf b).take (bW (bf b)))≠0 then iN ((bf a).take (bW (bf a))) ((bf b).take (bW (bf b)))
  else bw ((bf a).drop (bW (bf a))) ((bf b).drop (bW (bf b))):=by
 grind [bw]
theorem wN : ∀(n:Nat) (a b:List UInt8),a.length+b.length<=n->bw b a= -bw a b
 |0,a,b,h=>by
  simp_all[bw]
 |n+1,a,b,h=>by
  by_cases h0:a=[]/\b=[]
  .grind [bw]
  .have hlt:=vu h0;have ih:=wN n ((bf a).drop (bW (bf a))) ((bf b).drop (bW (bf b))) (by omega);rw[vP (a:=b) (b:=a) (λe=>h0 ⟨e.2,e.1⟩),vP h0,tY _ a b (ada _)];grind [zQ,oa]
theorem qt (a b:List UInt8):bw b a= -bw a b:=wN _ a b (ada _)
theorem fO (a b:List UInt8):bO b a= -bO a b:=by
 unfold bO;rcases fL a with _|⟨e,u,r⟩
 .rcases fL b with _|⟨f,v,s⟩<;>rfl
 .rcases fL b with _|⟨f,v,s⟩
  .rfl
  .show(if bw f e≠0 then bw f e else if bw v u≠0 then bw v u else bw s r)= -(if bw e f≠0 then bw e f else if bw u v≠0 then bw u v else bw r s);rw[qt e f,qt u v,qt r s];by_cases h1:bw e f=0
   .by_cases h2:bw u v=0
    .simp[h1,h2]
    .rw[if_neg (show ¬(-bw e f≠0) by omega),if_neg (show ¬(bw e f≠0) by omega),if_pos (show-bw u v≠0 by omega),if_pos h2]
   .rw[if_pos (show-bw e f≠0 by omega),if_pos h1]
theorem re (a b:List UInt8):bb b a=bb a b:=by
 grind [bb,fO]
theorem uf (p q:Pkg):dA p q=dA q p:=by
 grind [dA,re]
theorem qU : ∀(l bef:List Pkg),pH bef l=false↔(∀p∈l,∀q∈bef,dA p q=false)/\l.Pairwise λx y=>dA y x=false
 |[],bef=>by simp[pH]
 |p::r,bef=>by
  rw[pH,acZ,qU r,adi,adp];grind
theorem iV : ∀(l:List Pkg) (acc:List (List UInt8)) (x:List UInt8),x∈dE l acc↔x∈acc\/ ∃p∈l,p.name=x
 |[],acc,x=>by simp[dE]
 |p::r,acc,x=>by
  rw[dE,iV r];grind
theorem iz : ∀(l:List Pkg) (acc:List (List UInt8)),acc.Nodup->(dE l acc).Nodup
 |[],acc,h=>h
 |p::r,acc,h=>by
  rw[dE];refine iz r _ ?_;grind
theorem kj {α:Type} [DecidableEq α]: ∀(l m:List α),l.Nodup->(∀x∈l,x∈m)->l.length<=m.length
 |[],_,_,_=>acH _
 |x::l,m,hn,h=>by
  rw[ac7]at hn;have hx:=h x (by simp);have:=kj l (m.erase x) hn.2 λy hy=>by
   grind
  grind
theorem CI : ∀(l:List Int),orL l=0↔ ∀x∈l,x=0
 |[]=>by simp[orL]
 |y::r=>by
  constructor
  .exact iA
  .intro h;rw[orL,if_neg (by simp_all)];exact(CI r).2 λx hx=>h x (by simp[hx])
structure HL (l:List Pkg):Prop where
 may: ∀p∈l,aT p=0
 pair:l.Pairwise λp q=>p.name≠q.name/\fH p q=false
 met: ∀p∈l,∀c∈p.pre++p.dep,∃q∈l,c.any (c8 q)=true
theorem EV {c:Clause}{l:List Pkg}:gN c l=true↔ ∃q∈l,c.any (c8 q)=true:=by
 grind [gN]
theorem Oi {l bef:List Pkg}{p:Pkg}:tQ l bef p=false↔aT p=0/\(∀q∈bef,q.name≠p.name/\fH p q=false)/\ ∀c∈p.pre++p.dep,∃q∈l,c.any (c8 q)=true:=by
 unfold tQ;grind [adp,EV]
theorem zK {l:List Pkg}: ∀(r bef:List Pkg),uk l bef r=false↔(∀p∈r,aT p=0/\ ∀c∈p.pre++p.dep,∃q∈l,c.any (c8 q)=true)/\(∀p∈r,∀q∈bef,q.name≠p.name/\fH p q=false)/\r.Pairwise λq p=>q.name≠p.name/\fH p q=false
 |[],bef=>by simp[uk]
 |p::r,bef=>by
  rw[uk,acZ,Oi,zK r,adi];grind
theorem DZ {l:List Pkg}:dh l=true↔HL l:=by
 unfold dh;rw[ac5,zK];constructor
 .rintro⟨h1,_,h3⟩;exact⟨λp hp=>(h1 p hp).1,h3.imp λ{a b} h=>⟨h.1,by grind [qA]⟩,λp hp=>(h1 p hp).2⟩
 .intro h;exact⟨λp hp=>⟨h.may p hp,h.met p hp⟩,by simp,h.pair.imp λ{a b} h=>⟨h.1,by grind [qA]⟩⟩
theorem HL.perm {l m:List Pkg}(h:HL l)(hp:l.Perm m):HL m:=
 ⟨λp hm=>h.may p (hp.symm.subset hm),hp.pairwise h.pair λ{a b} h=>⟨λe=>h.1 e.symm,by grind [qA]⟩,λp hm c hc=>by
  grind [HL.met]⟩
def pick (S:Nat->Bool):Nat->List Pkg->List Pkg
 |_,[]=>[]
 |i,p::r=>if S i=true then p::pick S (i+1) r else pick S (i+1) r
end Go.Av
end
section
namespace Go.Proofs.Tryz
open Go Go.Av
def Xd (all:List Pkg)(S:Nat->Bool)(x:Clause):Prop:=∃ (m:Nat) (q:Pkg),all[m]?=some q/\x.any (c8 q)=true/\S m=true
def Xm (all:List Pkg)(S:Nat->Bool)(i:Nat)(x:Atom):Prop:=∀ (m:Nat) (q:Pkg),all[m]?=some q->S m=true->m≠i->c8 q x=false
structure XD (all:List Pkg)(S:Nat->Bool)(c:Nat×Nat×Nat):Prop where
 pre:c.2.1=1-> ∀p x,all[c.1]?=some p->p.pre[c.2.2]?=some x->Xd all S x
 dep:c.2.1=2-> ∀p x,all[c.1]?=some p->p.dep[c.2.2]?=some x->Xd all S x
 con:c.2.1=3-> ∀p x,all[c.1]?=some p->p.con[c.2.2]?=some x->Xm all S c.1 x
 brk:c.2.1=4-> ∀p x,all[c.1]?=some p->p.brk[c.2.2]?=some x->Xm all S c.1 x
structure acD (all:List Pkg)(e:List (Nat×Nat×Nat))(S:Nat->Bool):Prop where
 name: ∀(a b:Nat) (p q:Pkg),all[a]?=some p->all[b]?=some q->a≠b->S a=true->S b=true->p.name≠q.name
 acA: ∀c∈e,S c.1=true->XD all S c
def Vo (all:List Pkg)(c:Nat×Nat×Nat):Clause:=match all[c.1]? with
 |some p=>(match c.2.1 with
  |1=>(p.pre[c.2.2]?).getD []
  |2=>(p.dep[c.2.2]?).getD []
  |3=>((p.con[c.2.2]?).map λx=>[x]).getD []
  |_=>((p.brk[c.2.2]?).map λx=>[x]).getD [])
 |none=>[]
def aax (all:List Pkg)(cl:Clause)(m:Nat):Bool:=match all[m]? with
 |some q=>cl.any (c8 q)
 |none=>false
def gq (all:List Pkg)(cl:Clause)(n:Nat):List Nat:=(List.range n).filter (aax all cl)
def Hi (all:List Pkg)(c:Nat×Nat×Nat):List Nat:=gq all (Vo all c) all.length
structure acF (all:List Pkg)(e:List (Nat×Nat×Nat))(S:Nat->Bool):Prop where
 name: ∀i k,k<i->i<all.length->Xo all k=Xo all i->S i=true->S k=true->False
 con: ∀c∈e,(c.2.1=3\/c.2.1=4)-> ∀m∈Hi all c,m≠c.1->S c.1=true->S m=true->False
 dep: ∀c∈e,(c.2.1=1\/c.2.1=2)->S c.1=true-> ∃m∈Hi all c,S m=true
end Go.Proofs.Tryz
end
section
namespace Go.Proofs.Tryz
open Go Go.Av
set_option maxRecDepth 10000
variable {W0 :World}
theorem dp {x y a b:AV}(h1:dq x y)(h2:dq a b):dq (.tup [x,a]) (.tup [y,b]):=.tup rfl λi u v hu hv=>by
 grind
end Go.Proofs.Tryz
end
