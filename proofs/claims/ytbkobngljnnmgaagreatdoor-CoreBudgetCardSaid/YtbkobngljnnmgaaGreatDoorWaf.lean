/- Texts that the last one of this claim rests on: a layer over the guide's own conditions for code; contracts of the functions that the law reaches, one by one. No conditions beside those of the given rows. -/
import Derived.Test.YtbkobngljnnmgaaGreatDoorWad
import Derived.Test.YtbkobngljnnmgaaGreatDoorWae
set_option linter.unusedSimpArgs false
set_option linter.unusedVariables false
open Nat renaming zero_le->acO,le_trans->acT
open Option renaming getD_some->acP
open Bool renaming or_eq_false_iff->acQ,or_eq_true->acS
open UInt8 renaming toNat_inj->acR
section
namespace Go.Proofs.Tryz
open Go Go.Av
set_option maxRecDepth 10000
variable {W0 :World}
theorem CS (c:UInt8):ag prog W0 167 [.int .u8 c.toNat] (.bool (jO c)):=by
 refine an [2] [] func167 rfl rfl ntmps167 rfl rfl (.bool _) λ_ σ=>?_
 simp only[go_sem,simprocAttr];grind [aq,jO]
theorem gq (c:UInt8):ag prog W0 168 [.int .u8 c.toNat] (.bool (bk c)):=by
 refine an [2] [] func168 rfl rfl ntmps168 rfl rfl (.bool _) λ_ σ=>?_
 simp only[go_sem,simprocAttr];grind [aq,bk]
theorem sj (c:UInt8):ag prog W0 175 [.int .u8 c.toNat] (.bool (eB c)):=by
 refine an [2] [] func175 rfl rfl ntmps175 rfl rfl (.bool _) λ_ σ=>?_
 simp only[go_sem,simprocAttr];refine aj.fn (CS c) ?_;simp only[go_sem,simprocAttr];grind [aq,eB]
theorem AK (a b:Int):ag prog W0 177 [.int .i64 a,.int .i64 b] (.int .i64 (sgn a b)):=by
 refine an [4] [] func177 rfl rfl ntmps177 rfl rfl (.int _ _) λ_ σ=>?_
 simp only[go_sem,simprocAttr];grind [az,sgn]
theorem Jg (s:List UInt8)(c:UInt8):ag prog W0 173 [.str s,.int .u8 c.toNat] (.int .i64 (bD c s)):=by
 refine an [4] [] func173 rfl rfl ntmps173 rfl rfl (.int _ _) λhs σ=>?_
 have hsl:s.length<=maxLen:=dw (hs _ (by simp));simp only[go_sem,simprocAttr];refine VC.upto [] s.length (λi A=>A.env 0= .str s/\A.env 1= .int .u8 c.toNat/\A.env 7= .int .i64 s.length/\A.env 8= .int .i64 i/\A.st=σ/\ ∀j d,j<i->s[j]?=some d-> ¬d=c) 0 (acO _) (.here ?_) λi A hi ⟨h0,h1,h7,h8,hst,hI⟩=>?_
 .simp only[go_sem,simprocAttr]
 simp only[go_sem,simprocAttr,h0,h1,h7,h8,hst];refine⟨λhc=>⟨hc,λh=>?_,λh=>⟨hc,.here ?_⟩⟩,λhc=>?_⟩
 .grind [az,D2]
 .simp only[go_sem,simprocAttr,h0,h1,h7,hst];grind [ah]
 grind [az,zE]
theorem Oz (s:List UInt8)(c:UInt8):ag prog W0 174 [.str s,.int .u8 c.toNat] (.int .i64 (lastOf c s)):=by
 refine an [4] [] func174 rfl rfl ntmps174 rfl rfl (.int _ _) λhs σ=>?_
 have hsl:s.length<=9223372036854775807:=dw (hs _ (by simp));simp only[go_sem,simprocAttr];refine VC.cE [] (λk A=>A.env 0= .str s/\A.env 1= .int .u8 c.toNat/\A.env 5= .int .i64 ((k:Int)-1)/\A.st=σ/\k<=s.length/\lastOf c s=kb c s k) s.length (.here ?_) λk A ⟨h0,h1,h5,hst,hk,hI⟩=>?_
 .simp only[go_sem,simprocAttr];grind [lastOf,aH]
 simp only[go_sem,simprocAttr,h0,h1,h5,hst];cases k with
 |zero=>
  refine⟨λh=>by simp at h,λ_=>az hI.symm⟩
 |succ i=>
  have e:((i+1:Nat):Int)-1=(i:Int):=by omega
  simp only[e];obtain⟨x,hx⟩:=get_some (show i<s.length by omega);simp only[go_sem,simprocAttr,hx];have hib:(i:Int)-1<=9223372036854775807:=by omega
  refine⟨by omega,λh=>az ?_,λh=>.here i (by omega) ?_⟩
  .grind [kb]
  .simp only[go_sem,simprocAttr,h0,h1,hst];grind [aH,kb]
theorem ur (s:List UInt8)(i:Nat):ag prog W0 176 [.str s,.int .i64 i] (.int .i64 (tc s i)):=by
 refine an [4] [] func176 rfl rfl ntmps176 rfl rfl (.int _ _) λhs σ=>?_
 simp only[go_sem,simprocAttr];refine aB.fnG (λ_=>gq _) ?_;simp only[go_sem,simprocAttr];refine⟨λh=>az ?_,λh=>?_⟩
 .grind [tc]
 simp only[acQ,decide_eq_false_iff_not,Nat.not_le]at h;obtain⟨c,hc⟩:=get_some h.1;simp only[hc,acP]at h ⊢;refine⟨by omega,λh1=>az ?_,λh1=>?_⟩
 .grind [tc,vd]
 refine aj.fn (sj c) ?_;have h126: ¬c.toNat=126:=by omega
 have hc8:=c.toNat_lt;simp only[go_sem,simprocAttr];grind [az,aH,tc,vd]
theorem Ke (s:List UInt8):ag prog W0 179 [.str s] (.int .i64 (bU s)):=by
 refine an [2] [] func179 rfl rfl ntmps179 rfl rfl (.int _ _) λhs σ=>?_
 have hsl:s.length<=maxLen:=dw (hs _ (by simp));simp only[go_sem,simprocAttr];refine VC.upto [] s.length (λi A=>A.env 0= .str s/\A.env 3= .int .i64 i/\A.st=σ/\ ∀c∈s.take i,bk c=true) 0 (acO _) (.here ?_) λi A hi ⟨h0,h3,hst,hI⟩=>?_
 .simp only[go_sem,simprocAttr];simp_all
 simp only[go_sem,simprocAttr,h0,h3,hst];refine aB.fnG (λ_=>gq _) ?_;simp only[go_sem,simprocAttr,h3,hst];rw[LK,KO];refine⟨λ⟨c,hc,hd⟩=>?_,λh=>az (by grind [GF])⟩;have hlt:=(List.getElem?_eq_some_iff.1 hc).1;refine⟨hlt,.here ?_⟩;simp only[go_sem,simprocAttr,h0,hst];refine⟨ah hlt hsl,λd hd'=>?_⟩;rw[ai hc]at hd';grind
theorem GP (s:List UInt8):ag prog W0 178 [.str s] (.str (gr (bO s))):=by
 refine an [2] [] func178 rfl rfl ntmps178 rfl rfl (.str _) λhs σ=>?_
 simp only[go_sem,simprocAttr];refine ae.cut (λA=>A.env 0= .str (bO s)/\A.st=σ) (λA ⟨h0,hst⟩=>?_) ?_
 .simp only[go_sem,simprocAttr];refine VC.cE [] (λk A=>∃ t,A.env 0= .str t/\A.st=σ/\k=t.length/\gr t=gr (bO s)) (bO s).length (.here ⟨bO s,h0,hst,rfl,rfl⟩) λk A ⟨t,h0,hst,hk,hI⟩=>?_
  cases t with
  |nil=>
   simp only[go_sem,simprocAttr,h0,hst];exact oH hI
  |cons c r=>
   simp only[go_sem,simprocAttr,h0,hst];refine⟨λh=>.here r.length (by simp_all) ⟨r,?_⟩,λh=>oH ?_⟩
   .simp only[go_sem,simprocAttr,hst]
    have:c=48:=acR.1 (by grind);simp_all[gr]
   .rw[<-hI];simp[gr,show ¬c=48 from λe=>h (by simp_all)]
 refine VC.cE [] (λk A=>∃ t,A.env 0= .str t/\A.st=σ/\k=t.length/\bO t=bO s) s.length (.here ⟨s,?_⟩) λk A ⟨t,h0,hst,hk,hI⟩=>?_
 .simp only[go_sem,simprocAttr]
 cases t with
 |nil=>
  simp only[go_sem,Nat.reduceEqDiff,Nat.reduceLT,↓reduceIte,Int.reduceToNat,Int.reduceLE,Int.reduceLT,Int.reduceEq,Int.reduceBEq,Int.reduceBNe,Int.reduceNeg,Int.reduceAdd,Int.reduceSub,Nat.reduceBEq,Nat.reduceAdd,Nat.reduceMul,Nat.reduceSub,Nat.reduceLeDiff,h0,hst];refine aB.fnG (λ_=>gq _) ?_;simp only[go_sem,simprocAttr,h0,hst];rw[<-hI];rfl
 |cons c r=>
  simp only[go_sem,simprocAttr,h0,hst];refine aB.fnG (λ_=>gq _) ?_;simp only[go_sem,simprocAttr,h0,hst];refine⟨λh=>.here r.length (by simp_all) ⟨r,?_⟩,λh=>?_⟩
  .simp only[go_sem,simprocAttr,hst];simp_all[bO]
  simp_all[bO]
theorem Ap (a b:List UInt8):ag prog W0 110 [.str a,.str b] (.int .i64 (br a b)):=by
 refine an [4] [] func110 rfl rfl ntmps110 rfl rfl (.int _ _) λhs σ=>?_
 have hal:a.length<=maxLen:=dw (hs (.str a) (by simp));have hbl:b.length<=maxLen:=dw (hs (.str b) (by simp));simp only[go_sem,simprocAttr];refine VC.cE [] (λk A=>∃ x y,A.env 0= .str x/\A.env 1= .str y/\A.st=σ/\k=x.length+y.length/\br x y=br a b/\x.length<=maxLen/\y.length<=maxLen) (a.length+b.length) (.here ⟨a,b,?_⟩) λk A ⟨x,y,h0,h1,hst,hk,hI,hx,hy⟩=>?_
 .simp only[go_sem,simprocAttr];omega
 simp only[go_sem,simprocAttr,h0,h1,hst];refine⟨λhc=>?_,λhc=>?_⟩
 case refine_2=>
  grind [az,br]
 have hne: ¬(x=[]/\y=[]):=λ⟨e,e'⟩=>by simp_all
 refine ae.cut (λA=>A.env 0= .str x/\A.env 1= .str y/\A.st=σ/\cw x y=0) (λA ⟨h0,h1,hst,hs0⟩=>?_) ?_
 case refine_2=>
  refine VC.upto [] x.length (λi A=>A.env 0= .str x/\A.env 1= .str y/\A.env 5= .int .i64 i/\A.st=σ/\cw (x.drop i) (y.drop i)=cw x y) 0 (acO _) (.here ?_) λi A hi ⟨h0,h1,h5,hst,hI'⟩=>?_
  .simp only[go_sem,simprocAttr,h0,h1,hst]
   all_goals simp
  simp only[go_sem,simprocAttr,h0,h5];refine aj.fn (ur x i) ?_;simp only[go_sem,simprocAttr,h1,h5,hst];refine aB.fnG (λ_=>ur y i) ?_;simp only[go_sem,simprocAttr,h0,h1,h5,hst];refine⟨λhr=>?_,λhr=>?_⟩
  case refine_2=>
   grind [n5,lk]
  refine aj.fn (ur x i) ?_;simp only[go_sem,simprocAttr,h1,h5];refine aj.fn (ur y i) ?_;simp only[go_sem,simprocAttr];refine aj.fn (AK _ _) ?_;simp only[go_sem,simprocAttr,h5,hst];rw[n5,n5]at hr ⊢;refine⟨λhne'=>az ?_,λhe=>?_⟩
  .grind [sgn,dU,br]
  .have e:=qt he;have hr1:rk (x.drop i)≠0:=λh0=>by simp_all
   obtain⟨c,r,hcr,_⟩:=BU hr1;have hlt:i<x.length:=by
    grind
   refine⟨hlt,.here ?_⟩;simp only[go_sem,simprocAttr,h0,h1,hst];grind [ah,gR,List.tail_drop]
 simp only[go_sem,simprocAttr,h0];refine aj.fn (GP x) ?_;simp only[go_sem,simprocAttr,h1];refine aj.fn (GP y) ?_;simp only[go_sem,simprocAttr];refine aj.fn (Ke _) ?_;simp only[go_sem,simprocAttr];refine aj.fn (Ke _) ?_;simp only[go_sem,simprocAttr];rw[show gr (bO x)=bc x from rfl,show gr (bO y)=bc y from rfl];have hnx:=uA x;have hny:=uA y;refine⟨λhm=>?_,λhm=>?_⟩
 .refine aj.fn (AK _ _) ?_;simp only[go_sem,simprocAttr,hst];grind [az,br]
 have hm1:=qZ (bc x);have hm2:=qZ (bc y);refine ae.cut (λA=>A.env 0= .str (bc x)/\A.env 1= .str (bc y)/\A.env 7= .int .i64 (bU (bc x))/\A.env 8= .int .i64 (bU (bc y))/\A.st=σ/\iF ((bc x).take (bU (bc x))) ((bc y).take (bU (bc y)))=0) (λA ⟨h0,h1,h7,h8,hst,hl0⟩=>?_) ?_
 .simp only[go_sem,simprocAttr,h0,h1,h7,h8];refine⟨.of (by kernel_rfl),hm1,hm2,.here (((bc x).drop (bU (bc x))).length+((bc y).drop (bU (bc y))).length) (by rw[hk];exact xi hne) ⟨(bc x).drop (bU (bc x)),(bc y).drop (bU (bc y)),?_⟩⟩;simp only[go_sem,simprocAttr,hst];grind [br.eq_def]
 refine VC.upto [] (bU (bc x)) (λi A=>A.env 0= .str (bc x)/\A.env 1= .str (bc y)/\A.env 7= .int .i64 (bU (bc x))/\A.env 8= .int .i64 (bU (bc y))/\A.env 53= .int .i64 (bU (bc x))/\A.env 54= .int .i64 i/\A.st=σ/\(bc x).take i=(bc y).take i) 0 (acO _) (.here ?_) λi A hi ⟨h0,h1,h7,h8,h53,h54,hst,hp⟩=>?_
 .simp only[go_sem,simprocAttr,hst];simp_all
 simp only[go_sem,simprocAttr,h0,h1,h7,h8,h53,h54,hst];refine⟨λhlt=>?_,λhge=>?_⟩
 .obtain⟨c,hc⟩:=get_some (show i<(bc x).length by omega);obtain⟨d,hd⟩:=get_some (show i<(bc y).length by omega);have hc8:=c.toNat_lt;have hd8:=d.toNat_lt;refine⟨.of (by kernel_rfl),by omega,by omega,?_⟩;simp only[hc,hd,acP];refine aB.fn (AK _ _) ?_;simp only[go_sem,simprocAttr,h54,hst];refine⟨λhne'=>az ?_,λhe=>⟨hlt,.here ?_⟩⟩
  .have hcd:c≠d:=λe=>hne' (by rw[e,qR])
   have hl:iF ((bc x).take (bU (bc x))) ((bc y).take (bU (bc y)))=sgn c.toNat d.toNat:=by
    refine OX (i:=i) ?_ ?_ ?_ hcd
    .grind
    .grind
    grind
   grind [br.eq_def]
  .simp only[go_sem,simprocAttr,h0,h1,h7,h8,h53,hst];refine⟨ah hlt (acT hm1 (acT hnx hx)),?_⟩;have:=qt he;rw[ai hc,ai hd,hp,show c=d from acR.1 (by omega)]
 grind [I0]
def oO :Option (List UInt8×List UInt8×List UInt8)->AV
 |none=>.tup [.str [],.str [],.str [],.bool false]
 |some (e,u,r)=>.tup [.str e,.str u,.str r,.bool true]
theorem H0 (v:Option (List UInt8×List UInt8×List UInt8)):aU 0 (oO v):=by
 cases v<;>refine .tup λx hx=>?_<;>simp at hx
 .rcases hx with rfl|rfl
  .exact .str _
  .exact .bool _
 .rcases hx with rfl|rfl|rfl|rfl
  .exact .str _
  .exact .str _
  .exact .str _
  .exact .bool _
theorem oJ {s:List UInt8}{f:UInt8->Bool}{i:Nat}{c:UInt8}(h:(s.take i).all f=true)(hc:s[i]?=some c)(hf:f c=true):(s.take (i+1)).all f=true:=by
 simp_all[ai]
theorem na (s:List UInt8):ag prog W0 109 [.str s] (oO (fC s)):=by
 refine an [2,3,4,5] [] func109 rfl rfl ntmps109 rfl rfl (H0 _) λhs σ=>?_
 have hsl:s.length<=maxLen:=dw (hs (.str s) (by simp));have none_end:fC s=none->dc (AV.tup [.str [],.str [],.str [],.bool false]) (oO (fC s)):=λe=>by rw[e];exact .refl _
 simp only[go_sem,simprocAttr];simp only[acS,acQ,decide_eq_true_eq,decide_eq_false_iff_not,beq_iff_eq,beq_eq_false_iff_ne];refine⟨λh=>none_end (by grind [fC]),λh=>?_⟩;have hlen: ¬(s.length=0\/48<s.length):=by omega
 refine aj.fn (Jg s 58) ?_;simp only[go_sem,simprocAttr];refine cj.cut (λA=>∃ e t,sa s=some (e,t)/\A.env 0= .str t/\A.env 6= .str e/\A.env 7= .str []/\A.st=σ/\t.length<=s.length) (λA ⟨e,t,hep,h0,h6,h7,hst,htl⟩=>?_) (λhf=>?_) (λhf=>?_)
 case refine_3=>
  simp only[go_sem,simprocAttr];grind [sa]
 case refine_2=>
  obtain⟨i,hi,hgi,hlt⟩:=(lQ 58 s).resolve_left (λe=>by simp_all);rw[hi];have hw:IntKind.i64.wrap ((i:Int)+1)=((i+1:Nat):Int):=j9 hlt hsl;have hep:sa s=if 1<=(s.take i).length/\(s.take i).length<=9/\(s.take i).all bk=true then some (s.take i,s.drop (i+1))else none:=by
   grind [sa]
  have bad: ¬(1<=(s.take i).length/\(s.take i).length<=9/\(s.take i).all bk=true)->fC s=none:=λhb=>by
   grind [fC]
  simp only[go_sem,simprocAttr,hw];refine⟨.of (by kernel_rfl),by omega,by omega,?_⟩;simp only[acS,acQ,decide_eq_true_eq,decide_eq_false_iff_not];refine⟨λhb=>none_end (bad (by omega)),λhb=>?_⟩;have htk:(s.take i).length=i:=by grind
  refine VC.upto [] i (λj A=>A.env 0= .str (s.drop (i+1))/\A.env 6= .str (s.take i)/\A.env 7= .str []/\A.env 43= .int .i64 i/\A.env 44= .int .i64 j/\A.st=σ/\((s.take i).take j).all bk=true) 0 (acO _) (.here ?_) λj A hj ⟨h0,h6,h7,h43,h44,hst,hI⟩=>?_
  .simp only[go_sem,simprocAttr];simp_all
  simp only[go_sem,simprocAttr,h0,h6,h7,h43,h44,hst];refine⟨λhlt'=>⟨by omega,?_⟩,λhge=>⟨s.take i,s.drop (i+1),?_⟩⟩
  .obtain⟨c,hc⟩:=get_some (show j<(s.take i).length by omega);simp only[hc,acP];refine aj.fn (gq c) ?_;simp only[go_sem,simprocAttr,h44,hst];refine⟨λhd=>none_end (bad λhb=>?_),λhd=>⟨hlt',.here ?_⟩⟩
   .grind
   .simp only[go_sem,simprocAttr,h0,h6,h7,h43,hst];grind [ah,oJ]
  .have:j=i:=by omega
   rw[this,List.take_take,Nat.min_self]at hI;simp only[go_sem,simprocAttr];grind
 simp only[go_sem,simprocAttr,h0];refine aj.fn (Oz t 45) ?_;simp only[go_sem,simprocAttr];refine cj.cut (λA=>∃ u r,uG t=some (u,r)/\A.env 0= .str u/\A.env 6= .str e/\A.env 7= .str r/\A.st=σ/\u.length<=s.length/\r.length<=s.length) (λA ⟨u,r,hrv,h0,h6,h7,hst,hul,hrl⟩=>?_) (λhf=>?_) (λhf=>?_)
 case refine_3=>
  simp only[go_sem,simprocAttr,h0,h6,h7,hst];grind [uG]
 case refine_2=>
  obtain⟨i,hi,hgi,hlt⟩:=(rN 45 t).resolve_left (λe=>by simp_all);rw[hi];have hw:IntKind.i64.wrap ((i:Int)+1)=((i+1:Nat):Int):=j9 hlt (by omega);have hrv:uG t=if t.drop (i+1)=[]then none else some (t.take i,t.drop (i+1)):=by
   grind [uG]
  simp only[go_sem,simprocAttr,hw,h0,h6,hst];refine⟨.of (by kernel_rfl),by omega,by omega,λhb=>none_end (by grind [fC]),λhb=>⟨t.take i,t.drop (i+1),?_⟩⟩;grind
 have hv:fC s=if r.all tz&&u.all Dh&&iw u then some (e,u,r)else none:=by
  grind [fC]
 simp only[go_sem,simprocAttr,h7];refine ae.cut (λA=>A.env 0= .str u/\A.env 6= .str e/\A.env 7= .str r/\A.st=σ/\r.all tz=true) (λA ⟨h0,h6,h7,hst,hr⟩=>?_) ?_
 case refine_2=>
  refine VC.upto [] r.length (λj A=>A.env 0= .str u/\A.env 6= .str e/\A.env 7= .str r/\A.env 67= .int .i64 r.length/\A.env 68= .int .i64 j/\A.st=σ/\(r.take j).all tz=true) 0 (acO _) (.here ?_) λj A hj ⟨h0,h6,h7,h67,h68,hst,hI⟩=>?_
  .simp only[go_sem,simprocAttr,h0,h6,h7,hst];simp_all
  simp only[go_sem,simprocAttr,h0,h6,h7,h67,h68,hst];refine⟨λhlt=>⟨hlt,?_⟩,λhge=>by grind⟩;obtain⟨c,hc⟩:=get_some hlt;simp only[hc,acP];refine aj.fn (sj c) ?_;simp only[go_sem,simprocAttr,hst];refine aB.fnG (λ_=>gq c) ?_;simp only[go_sem,simprocAttr,h68,hst,Hr];refine⟨λhb=>none_end (by grind),λhb=>⟨hlt,.here ?_⟩⟩;simp only[go_sem,simprocAttr,h0,h6,h7,h67,hst];grind [ah,oJ]
 simp only[go_sem,simprocAttr,h0];refine ae.cut (λA=>A.env 0= .str u/\A.env 6= .str e/\A.env 7= .str r/\A.st=σ/\u.all Dh=true) (λA ⟨h0,h6,h7,hst,hu⟩=>?_) ?_
 case refine_2=>
  refine VC.upto [] u.length (λj A=>A.env 0= .str u/\A.env 6= .str e/\A.env 7= .str r/\A.env 96= .int .i64 u.length/\A.env 97= .int .i64 j/\A.st=σ/\(u.take j).all Dh=true) 0 (acO _) (.here ?_) λj A hj ⟨h0,h6,h7,h96,h97,hst,hI⟩=>?_
  .simp only[go_sem,simprocAttr,h0,h6,h7,hst];simp_all
  simp only[go_sem,simprocAttr,h0,h6,h7,h96,h97,hst];refine⟨λhlt=>⟨hlt,?_⟩,λhge=>by grind⟩;obtain⟨c,hc⟩:=get_some hlt;simp only[hc,acP];refine aj.fn (sj c) ?_;simp only[go_sem,simprocAttr,hst];refine aB.fnG (λ_=>gq c) ?_;simp only[go_sem,simprocAttr,h97,hst,Ls];refine⟨λhb=>none_end (by grind),λhb=>⟨hlt,.here ?_⟩⟩;simp only[go_sem,simprocAttr,h0,h6,h7,h96,hst];grind [ah,oJ]
 simp only[go_sem,simprocAttr,h0,hst];cases u with
 |nil=>
  simp only[go_sem,simprocAttr];refine aB.fnG (λ_=>gq 0) ?_;simp only[go_sem,simprocAttr,h0,h6,h7,hst];grind [iw]
 |cons c u'=>
  simp only[go_sem,simprocAttr];refine aB.fnG (λ_=>gq c) ?_;simp only[go_sem,simprocAttr,h0,h6,h7,hst];refine⟨λhd=>none_end (by grind [iw]),λhd=>?_⟩;rw[hv,hr,hu];simp only[iw,hd,Bool.and_true,if_true];exact .refl _
theorem GZ (s:List UInt8):ag prog W0 98 [.str s] (.bool (bP s)):=by
 refine an [2] [] func98 rfl rfl ntmps98 rfl rfl (.bool _) λhs σ=>?_
 simp only[go_sem,simprocAttr];refine aj.fn (na s) ?_;cases h:fC s with
 |none=>simp only[go_sem,simprocAttr,oO];grind [aq,bP]
 |some v=>obtain⟨e,u,r⟩:=v;simp only[go_sem,simprocAttr,oO];grind [aq,bP]
theorem uU (a b:List UInt8):ag prog W0 52 [.str a,.str b] (.int .i64 (cd a b)):=by
 refine an [4] [14] func52 rfl rfl ntmps52 rfl rfl (.int _ _) λhs σ=>?_
 simp only[go_sem,simprocAttr];refine aj.fn (na a) ?_;cases h:fC a with
 |none=>
  simp only[go_sem,simprocAttr,oO];refine aj.fn (na b) ?_;cases h':fC b with
  |none=>simp only[go_sem,simprocAttr,oO];grind [az,cd]
  |some v=>obtain⟨f,v,t⟩:=v;simp only[go_sem,simprocAttr,oO];grind [az,cd]
 |some v=>
  obtain⟨e,u,r⟩:=v;simp only[go_sem,simprocAttr,oO];refine aj.fn (na b) ?_;cases h':fC b with
  |none=>simp only[go_sem,simprocAttr,oO];grind [az,cd]
  |some v=>
   obtain⟨f,v,t⟩:=v;simp only[go_sem,simprocAttr,oO];refine VC.upto _ 3 (λi A=>A.env 45= .agg 173 [.agg 172 [.str e,.str f],.agg 172 [.str u,.str v],.agg 172 [.str r,.str t]]/\A.env 46= .int .i64 i/\Ext σ A.st/\(1<=i->br e f=0)/\(2<=i->br u v=0)/\(3<=i->br r t=0)) 0 (acO _) (.here ?_) λi A hi ⟨h45,h46,hst,hI⟩=>?_
   .simp only[go_sem,simprocAttr];simp[Ext.refl]
   obtain⟨hI1,hI2,hI3⟩:=hI;have hc:cd a b=if br e f≠0 then br e f else if br u v≠0 then br u v else br r t:=by grind [cd]
   rcases(show i=0\/i=1\/i=2\/i=3 by omega)with rfl|rfl|rfl|rfl
   .simp only[go_sem,simprocAttr,h45,h46];refine aj.fn (Ap e f) ?_;simp only[go_sem,simprocAttr,h46];refine⟨λhp=>⟨az (by omega),hst.app _⟩,λhp=>.here ?_⟩;simp only[go_sem,simprocAttr,h45];grind [Ext.app]
   .simp only[go_sem,simprocAttr,h45,h46];refine aj.fn (Ap u v) ?_;simp only[go_sem,simprocAttr,h46];refine⟨λhp=>⟨az (by omega),hst.app _⟩,λhp=>.here ?_⟩;simp only[go_sem,simprocAttr,h45];grind [Ext.app]
   .simp only[go_sem,simprocAttr,h45,h46];refine aj.fn (Ap r t) ?_;simp only[go_sem,simprocAttr,h46];refine⟨λhp=>⟨az (by omega),hst.app _⟩,λhp=>.here ?_⟩;simp only[go_sem,simprocAttr,h45];grind [Ext.app]
   .simp only[go_sem,simprocAttr,h45,h46];exact⟨az (by omega),hst⟩
theorem oC (a b:List UInt8):ag prog W0 50 [.str a,.str b] (.bool (bq a b)):=by
 refine an [4] [] func50 rfl rfl ntmps50 rfl rfl (.bool _) λhs σ=>?_
 simp only[go_sem,simprocAttr];refine aj.fn (GZ a) ?_;simp only[go_sem,simprocAttr];refine aB.fnG (λ_=>GZ b) ?_;simp only[go_sem,simprocAttr];refine aB.fnG (λ_=>uU a b) ?_;simp only[go_sem,simprocAttr];exact aq rfl
def F9 (rel:Int):List UInt8:=if rel=1 then [60,60]else if rel=2 then [60,61]else if rel=3 then [61]else if rel=4 then [62,61]else if rel=5 then [62,62]else []
theorem Lj (rel:Int):ag prog W0 180 [.int .i64 rel] (.str (F9 rel)):=by
 refine an [2] [] func180 rfl rfl ntmps180 rfl rfl (.str _) λhs σ=>?_
 simp only[go_sem,simprocAttr];grind [oH,F9]
end Go.Proofs.Tryz
end
