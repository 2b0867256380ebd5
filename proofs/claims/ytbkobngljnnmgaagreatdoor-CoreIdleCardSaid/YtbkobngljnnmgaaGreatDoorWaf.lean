/- What the last text of this claim rests on. No conditions. -/
import Derived.Test.YtbkobngljnnmgaaGreatDoorWad
import Derived.Test.YtbkobngljnnmgaaGreatDoorWae
set_option linter.unusedSimpArgs false
set_option linter.unusedVariables false
open Nat renaming zero_le->acG,le_trans->acL
open Option renaming getD_some->acH
open Bool renaming or_eq_false_iff->acI,or_eq_true->acK
open UInt8 renaming toNat_inj->acJ
section
namespace Go.Proofs.Tryz
open Go Go.Av
set_option maxRecDepth 10000
variable {W0 :World}
theorem Ek (c:UInt8):ai prog W0 167 [.int .u8 c.toNat] (.bool (jR c)):=by
 refine ak [2] [] func167 rfl rfl ntmps167 rfl rfl (.bool _) λ_ σ=>?_
 simp only[go_sem,simprocAttr];grind [au,jR]
theorem gA (c:UInt8):ai prog W0 168 [.int .u8 c.toNat] (.bool (bm c)):=by
 refine ak [2] [] func168 rfl rfl ntmps168 rfl rfl (.bool _) λ_ σ=>?_
 simp only[go_sem,simprocAttr];grind [au,bm]
theorem sV (c:UInt8):ai prog W0 175 [.int .u8 c.toNat] (.bool (eP c)):=by
 refine ak [2] [] func175 rfl rfl ntmps175 rfl rfl (.bool _) λ_ σ=>?_
 simp only[go_sem,simprocAttr];refine aj.fn (Ek c) ?_;simp only[go_sem,simprocAttr];grind [au,eP]
theorem CU (a b:Int):ai prog W0 177 [.int .i64 a,.int .i64 b] (.int .i64 (sgn a b)):=by
 refine ak [4] [] func177 rfl rfl ntmps177 rfl rfl (.int _ _) λ_ σ=>?_
 simp only[go_sem,simprocAttr];grind [az,sgn]
theorem QQ (s:List UInt8)(c:UInt8):ai prog W0 173 [.str s,.int .u8 c.toNat] (.int .i64 (bD c s)):=by
 refine ak [4] [] func173 rfl rfl ntmps173 rfl rfl (.int _ _) λhs σ=>?_
 have hsl:s.length<=maxLen:=dI (hs _ (by simp));simp only[go_sem,simprocAttr];refine VC.upto [] s.length (λi A=>A.env 0= .str s/\A.env 1= .int .u8 c.toNat/\A.env 7= .int .i64 s.length/\A.env 8= .int .i64 i/\A.st=σ/\ ∀j d,j<i->s[j]?=some d-> ¬d=c) 0 (acG _) (.here ?_) λi A hi ⟨h0,h1,h7,h8,hst,hI⟩=>?_
 .simp only[go_sem,simprocAttr]
 simp only[go_sem,simprocAttr,h0,h1,h7,h8,hst];refine⟨λhc=>⟨hc,λh=>?_,λh=>⟨hc,.here ?_⟩⟩,λhc=>?_⟩
 .grind [az,HJ]
 .simp only[go_sem,simprocAttr,h0,h1,h7,hst];grind [ag]
 grind [az,Dd]
theorem Uo (s:List UInt8)(c:UInt8):ai prog W0 174 [.str s,.int .u8 c.toNat] (.int .i64 (lastOf c s)):=by
 refine ak [4] [] func174 rfl rfl ntmps174 rfl rfl (.int _ _) λhs σ=>?_
 have hsl:s.length<=9223372036854775807:=dI (hs _ (by simp));simp only[go_sem,simprocAttr];refine VC.cC [] (λk A=>A.env 0= .str s/\A.env 1= .int .u8 c.toNat/\A.env 5= .int .i64 ((k:Int)-1)/\A.st=σ/\k<=s.length/\lastOf c s=kC c s k) s.length (.here ?_) λk A ⟨h0,h1,h5,hst,hk,hI⟩=>?_
 .simp only[go_sem,simprocAttr];grind [lastOf,aG]
 simp only[go_sem,simprocAttr,h0,h1,h5,hst];cases k with
 |zero=>
  refine⟨λh=>by simp at h,λ_=>az hI.symm⟩
 |succ i=>
  have e:((i+1:Nat):Int)-1=(i:Int):=by omega
  simp only[e];obtain⟨x,hx⟩:=get_some (show i<s.length by omega);simp only[go_sem,simprocAttr,hx];have hib:(i:Int)-1<=9223372036854775807:=by omega
  refine⟨by omega,λh=>az ?_,λh=>.here i (by omega) ?_⟩
  .grind [kC]
  .simp only[go_sem,simprocAttr,h0,h1,hst];grind [aG,kC]
theorem uX (s:List UInt8)(i:Nat):ai prog W0 176 [.str s,.int .i64 i] (.int .i64 (tj s i)):=by
 refine ak [4] [] func176 rfl rfl ntmps176 rfl rfl (.int _ _) λhs σ=>?_
 simp only[go_sem,simprocAttr];refine aD.fnG (λ_=>gA _) ?_;simp only[go_sem,simprocAttr];refine⟨λh=>az ?_,λh=>?_⟩
 .grind [tj]
 simp only[acI,decide_eq_false_iff_not,Nat.not_le]at h;obtain⟨c,hc⟩:=get_some h.1;simp only[hc,acH]at h ⊢;refine⟨by omega,λh1=>az ?_,λh1=>?_⟩
 .grind [tj,xb]
 refine aj.fn (sV c) ?_;have h126: ¬c.toNat=126:=by omega
 have hc8:=c.toNat_lt;simp only[go_sem,simprocAttr];grind [az,aG,tj,xb]
theorem Ty (s:List UInt8):ai prog W0 179 [.str s] (.int .i64 (bW s)):=by
 refine ak [2] [] func179 rfl rfl ntmps179 rfl rfl (.int _ _) λhs σ=>?_
 have hsl:s.length<=maxLen:=dI (hs _ (by simp));simp only[go_sem,simprocAttr];refine VC.upto [] s.length (λi A=>A.env 0= .str s/\A.env 3= .int .i64 i/\A.st=σ/\ ∀c∈s.take i,bm c=true) 0 (acG _) (.here ?_) λi A hi ⟨h0,h3,hst,hI⟩=>?_
 .simp only[go_sem,simprocAttr];simp_all
 simp only[go_sem,simprocAttr,h0,h3,hst];refine aD.fnG (λ_=>gA _) ?_;simp only[go_sem,simprocAttr,h3,hst];rw[Pj,Q2];refine⟨λ⟨c,hc,hd⟩=>?_,λh=>az (by grind [KP])⟩;have hlt:=(List.getElem?_eq_some_iff.1 hc).1;refine⟨hlt,.here ?_⟩;simp only[go_sem,simprocAttr,h0,hst];refine⟨ag hlt hsl,λd hd'=>?_⟩;rw[ah hc]at hd';grind
theorem Lj (s:List UInt8):ai prog W0 178 [.str s] (.str (gD (bP s))):=by
 refine ak [2] [] func178 rfl rfl ntmps178 rfl rfl (.str _) λhs σ=>?_
 simp only[go_sem,simprocAttr];refine ae.cut (λA=>A.env 0= .str (bP s)/\A.st=σ) (λA ⟨h0,hst⟩=>?_) ?_
 .simp only[go_sem,simprocAttr];refine VC.cC [] (λk A=>∃ t,A.env 0= .str t/\A.st=σ/\k=t.length/\gD t=gD (bP s)) (bP s).length (.here ⟨bP s,h0,hst,rfl,rfl⟩) λk A ⟨t,h0,hst,hk,hI⟩=>?_
  cases t with
  |nil=>
   simp only[go_sem,simprocAttr,h0,hst];exact oo hI
  |cons c r=>
   simp only[go_sem,simprocAttr,h0,hst];refine⟨λh=>.here r.length (by simp_all) ⟨r,?_⟩,λh=>oo ?_⟩
   .simp only[go_sem,simprocAttr,hst]
    have:c=48:=acJ.1 (by grind);simp_all[gD]
   .rw[<-hI];simp[gD,show ¬c=48 from λe=>h (by simp_all)]
 refine VC.cC [] (λk A=>∃ t,A.env 0= .str t/\A.st=σ/\k=t.length/\bP t=bP s) s.length (.here ⟨s,?_⟩) λk A ⟨t,h0,hst,hk,hI⟩=>?_
 .simp only[go_sem,simprocAttr]
 cases t with
 |nil=>
  simp only[go_sem,Nat.reduceEqDiff,Nat.reduceLT,↓reduceIte,Int.reduceToNat,Int.reduceLE,Int.reduceLT,Int.reduceEq,Int.reduceBEq,Int.reduceBNe,Int.reduceNeg,Int.reduceAdd,Int.reduceSub,Nat.reduceBEq,Nat.reduceAdd,Nat.reduceMul,Nat.reduceSub,Nat.reduceLeDiff,h0,hst];refine aD.fnG (λ_=>gA _) ?_;simp only[go_sem,simprocAttr,h0,hst];rw[<-hI];rfl
 |cons c r=>
  simp only[go_sem,simprocAttr,h0,hst];refine aD.fnG (λ_=>gA _) ?_;simp only[go_sem,simprocAttr,h0,hst];refine⟨λh=>.here r.length (by simp_all) ⟨r,?_⟩,λh=>?_⟩
  .simp only[go_sem,simprocAttr,hst];simp_all[bP]
  simp_all[bP]
theorem CL (a b:List UInt8):ai prog W0 110 [.str a,.str b] (.int .i64 (bw a b)):=by
 refine ak [4] [] func110 rfl rfl ntmps110 rfl rfl (.int _ _) λhs σ=>?_
 have hal:a.length<=maxLen:=dI (hs (.str a) (by simp));have hbl:b.length<=maxLen:=dI (hs (.str b) (by simp));simp only[go_sem,simprocAttr];refine VC.cC [] (λk A=>∃ x y,A.env 0= .str x/\A.env 1= .str y/\A.st=σ/\k=x.length+y.length/\bw x y=bw a b/\x.length<=maxLen/\y.length<=maxLen) (a.length+b.length) (.here ⟨a,b,?_⟩) λk A ⟨x,y,h0,h1,hst,hk,hI,hx,hy⟩=>?_
 .simp only[go_sem,simprocAttr];omega
 simp only[go_sem,simprocAttr,h0,h1,hst];refine⟨λhc=>?_,λhc=>?_⟩
 case refine_2=>
  grind [az,bw]
 have hne: ¬(x=[]/\y=[]):=λ⟨e,e'⟩=>by simp_all
 refine ae.cut (λA=>A.env 0= .str x/\A.env 1= .str y/\A.st=σ/\cE x y=0) (λA ⟨h0,h1,hst,hs0⟩=>?_) ?_
 case refine_2=>
  refine VC.upto [] x.length (λi A=>A.env 0= .str x/\A.env 1= .str y/\A.env 5= .int .i64 i/\A.st=σ/\cE (x.drop i) (y.drop i)=cE x y) 0 (acG _) (.here ?_) λi A hi ⟨h0,h1,h5,hst,hI'⟩=>?_
  .simp only[go_sem,simprocAttr,h0,h1,hst]
   all_goals simp
  simp only[go_sem,simprocAttr,h0,h5];refine aj.fn (uX x i) ?_;simp only[go_sem,simprocAttr,h1,h5,hst];refine aD.fnG (λ_=>uX y i) ?_;simp only[go_sem,simprocAttr,h0,h1,h5,hst];refine⟨λhr=>?_,λhr=>?_⟩
  case refine_2=>
   grind [ou,lA]
  refine aj.fn (uX x i) ?_;simp only[go_sem,simprocAttr,h1,h5];refine aj.fn (uX y i) ?_;simp only[go_sem,simprocAttr];refine aj.fn (CU _ _) ?_;simp only[go_sem,simprocAttr,h5,hst];rw[ou,ou]at hr ⊢;refine⟨λhne'=>az ?_,λhe=>?_⟩
  .grind [sgn,ei,bw]
  .have e:=qG he;have hr1:rk (x.drop i)≠0:=λh0=>by simp_all
   obtain⟨c,r,hcr,_⟩:=FX hr1;have hlt:i<x.length:=by
    grind
   refine⟨hlt,.here ?_⟩;simp only[go_sem,simprocAttr,h0,h1,hst];grind [ag,gR,List.tail_drop]
 simp only[go_sem,simprocAttr,h0];refine aj.fn (Lj x) ?_;simp only[go_sem,simprocAttr,h1];refine aj.fn (Lj y) ?_;simp only[go_sem,simprocAttr];refine aj.fn (Ty _) ?_;simp only[go_sem,simprocAttr];refine aj.fn (Ty _) ?_;simp only[go_sem,simprocAttr];rw[show gD (bP x)=bf x from rfl,show gD (bP y)=bf y from rfl];have hnx:=uQ x;have hny:=uQ y;refine⟨λhm=>?_,λhm=>?_⟩
 .refine aj.fn (CU _ _) ?_;simp only[go_sem,simprocAttr,hst];grind [az,bw]
 have hm1:=rb (bf x);have hm2:=rb (bf y);refine ae.cut (λA=>A.env 0= .str (bf x)/\A.env 1= .str (bf y)/\A.env 7= .int .i64 (bW (bf x))/\A.env 8= .int .i64 (bW (bf y))/\A.st=σ/\iN ((bf x).take (bW (bf x))) ((bf y).take (bW (bf y)))=0) (λA ⟨h0,h1,h7,h8,hst,hl0⟩=>?_) ?_
 .simp only[go_sem,simprocAttr,h0,h1,h7,h8];refine⟨.of (by kernel_rfl),hm1,hm2,.here (((bf x).drop (bW (bf x))).length+((bf y).drop (bW (bf y))).length) (by rw[hk];exact vu hne) ⟨(bf x).drop (bW (bf x)),(bf y).drop (bW (bf y)),?_⟩⟩;simp only[go_sem,simprocAttr,hst];grind [bw.eq_def]
 refine VC.upto [] (bW (bf x)) (λi A=>A.env 0= .str (bf x)/\A.env 1= .str (bf y)/\A.env 7= .int .i64 (bW (bf x))/\A.env 8= .int .i64 (bW (bf y))/\A.env 53= .int .i64 (bW (bf x))/\A.env 54= .int .i64 i/\A.st=σ/\(bf x).take i=(bf y).take i) 0 (acG _) (.here ?_) λi A hi ⟨h0,h1,h7,h8,h53,h54,hst,hp⟩=>?_
 .simp only[go_sem,simprocAttr,hst];simp_all
 simp only[go_sem,simprocAttr,h0,h1,h7,h8,h53,h54,hst];refine⟨λhlt=>?_,λhge=>?_⟩
 .obtain⟨c,hc⟩:=get_some (show i<(bf x).length by omega);obtain⟨d,hd⟩:=get_some (show i<(bf y).length by omega);have hc8:=c.toNat_lt;have hd8:=d.toNat_lt;refine⟨.of (by kernel_rfl),by omega,by omega,?_⟩;simp only[hc,hd,acH];refine aD.fn (CU _ _) ?_;simp only[go_sem,simprocAttr,h54,hst];refine⟨λhne'=>az ?_,λhe=>⟨hlt,.here ?_⟩⟩
  .have hcd:c≠d:=λe=>hne' (by rw[e,rU])
   have hl:iN ((bf x).take (bW (bf x))) ((bf y).take (bW (bf y)))=sgn c.toNat d.toNat:=by
    refine WC (i:=i) ?_ ?_ ?_ hcd
    .grind
    .grind
    grind
   grind [bw.eq_def]
  .simp only[go_sem,simprocAttr,h0,h1,h7,h8,h53,hst];refine⟨ag hlt (acL hm1 (acL hnx hx)),?_⟩;have:=qG he;rw[ah hc,ah hd,hp,show c=d from acJ.1 (by omega)]
 grind [ON]
def n9 :Option (List UInt8×List UInt8×List UInt8)->AV
 |none=>.tup [.str [],.str [],.str [],.bool false]
 |some (e,u,r)=>.tup [.str e,.str u,.str r,.bool true]
theorem M1 (v:Option (List UInt8×List UInt8×List UInt8)):aX 0 (n9 v):=by
 cases v<;>refine .tup λx hx=>?_<;>simp at hx
 .rcases hx with rfl|rfl
  .exact .str _
  .exact .bool _
 .rcases hx with rfl|rfl|rfl|rfl
  .exact .str _
  .exact .str _
  .exact .str _
  .exact .bool _
theorem oR {s:List UInt8}{f:UInt8->Bool}{i:Nat}{c:UInt8}(h:(s.take i).all f=true)(hc:s[i]?=some c)(hf:f c=true):(s.take (i+1)).all f=true:=by
 simp_all[ah]
theorem nG (s:List UInt8):ai prog W0 109 [.str s] (n9 (fL s)):=by
 refine ak [2,3,4,5] [] func109 rfl rfl ntmps109 rfl rfl (M1 _) λhs σ=>?_
 have hsl:s.length<=maxLen:=dI (hs (.str s) (by simp));have none_end:fL s=none->dq (AV.tup [.str [],.str [],.str [],.bool false]) (n9 (fL s)):=λe=>by rw[e];exact .refl _
 simp only[go_sem,simprocAttr];simp only[acK,acI,decide_eq_true_eq,decide_eq_false_iff_not,beq_iff_eq,beq_eq_false_iff_ne];refine⟨λh=>none_end (by grind [fL]),λh=>?_⟩;have hlen: ¬(s.length=0\/48<s.length):=by omega
 refine aj.fn (QQ s 58) ?_;simp only[go_sem,simprocAttr];refine cm.cut (λA=>∃ e t,sG s=some (e,t)/\A.env 0= .str t/\A.env 6= .str e/\A.env 7= .str []/\A.st=σ/\t.length<=s.length) (λA ⟨e,t,hep,h0,h6,h7,hst,htl⟩=>?_) (λhf=>?_) (λhf=>?_)
 case refine_3=>
  simp only[go_sem,simprocAttr];grind [sG]
 case refine_2=>
  obtain⟨i,hi,hgi,hlt⟩:=(lO 58 s).resolve_left (λe=>by simp_all);rw[hi];have hw:IntKind.i64.wrap ((i:Int)+1)=((i+1:Nat):Int):=jf hlt hsl;have hep:sG s=if 1<=(s.take i).length/\(s.take i).length<=9/\(s.take i).all bm=true then some (s.take i,s.drop (i+1))else none:=by
   grind [sG]
  have bad: ¬(1<=(s.take i).length/\(s.take i).length<=9/\(s.take i).all bm=true)->fL s=none:=λhb=>by
   grind [fL]
  simp only[go_sem,simprocAttr,hw];refine⟨.of (by kernel_rfl),by omega,by omega,?_⟩;simp only[acK,acI,decide_eq_true_eq,decide_eq_false_iff_not];refine⟨λhb=>none_end (bad (by omega)),λhb=>?_⟩;have htk:(s.take i).length=i:=by grind
  refine VC.upto [] i (λj A=>A.env 0= .str (s.drop (i+1))/\A.env 6= .str (s.take i)/\A.env 7= .str []/\A.env 43= .int .i64 i/\A.env 44= .int .i64 j/\A.st=σ/\((s.take i).take j).all bm=true) 0 (acG _) (.here ?_) λj A hj ⟨h0,h6,h7,h43,h44,hst,hI⟩=>?_
  .simp only[go_sem,simprocAttr];simp_all
  simp only[go_sem,simprocAttr,h0,h6,h7,h43,h44,hst];refine⟨λhlt'=>⟨by omega,?_⟩,λhge=>⟨s.take i,s.drop (i+1),?_⟩⟩
  .obtain⟨c,hc⟩:=get_some (show j<(s.take i).length by omega);simp only[hc,acH];refine aj.fn (gA c) ?_;simp only[go_sem,simprocAttr,h44,hst];refine⟨λhd=>none_end (bad λhb=>?_),λhd=>⟨hlt',.here ?_⟩⟩
   .grind
   .simp only[go_sem,simprocAttr,h0,h6,h7,h43,hst];grind [ag,oR]
  .have:j=i:=by omega
   rw[this,List.take_take,Nat.min_self]at hI;simp only[go_sem,simprocAttr];grind
 simp only[go_sem,simprocAttr,h0];refine aj.fn (Uo t 45) ?_;simp only[go_sem,simprocAttr];refine cm.cut (λA=>∃ u r,v7 t=some (u,r)/\A.env 0= .str u/\A.env 6= .str e/\A.env 7= .str r/\A.st=σ/\u.length<=s.length/\r.length<=s.length) (λA ⟨u,r,hrv,h0,h6,h7,hst,hul,hrl⟩=>?_) (λhf=>?_) (λhf=>?_)
 case refine_3=>
  simp only[go_sem,simprocAttr,h0,h6,h7,hst];grind [v7]
 case refine_2=>
  obtain⟨i,hi,hgi,hlt⟩:=(qM 45 t).resolve_left (λe=>by simp_all);rw[hi];have hw:IntKind.i64.wrap ((i:Int)+1)=((i+1:Nat):Int):=jf hlt (by omega);have hrv:v7 t=if t.drop (i+1)=[]then none else some (t.take i,t.drop (i+1)):=by
   grind [v7]
  simp only[go_sem,simprocAttr,hw,h0,h6,hst];refine⟨.of (by kernel_rfl),by omega,by omega,λhb=>none_end (by grind [fL]),λhb=>⟨t.take i,t.drop (i+1),?_⟩⟩;grind
 have hv:fL s=if r.all ua&&u.all DW&&ic u then some (e,u,r)else none:=by
  grind [fL]
 simp only[go_sem,simprocAttr,h7];refine ae.cut (λA=>A.env 0= .str u/\A.env 6= .str e/\A.env 7= .str r/\A.st=σ/\r.all ua=true) (λA ⟨h0,h6,h7,hst,hr⟩=>?_) ?_
 case refine_2=>
  refine VC.upto [] r.length (λj A=>A.env 0= .str u/\A.env 6= .str e/\A.env 7= .str r/\A.env 67= .int .i64 r.length/\A.env 68= .int .i64 j/\A.st=σ/\(r.take j).all ua=true) 0 (acG _) (.here ?_) λj A hj ⟨h0,h6,h7,h67,h68,hst,hI⟩=>?_
  .simp only[go_sem,simprocAttr,h0,h6,h7,hst];simp_all
  simp only[go_sem,simprocAttr,h0,h6,h7,h67,h68,hst];refine⟨λhlt=>⟨hlt,?_⟩,λhge=>by grind⟩;obtain⟨c,hc⟩:=get_some hlt;simp only[hc,acH];refine aj.fn (sV c) ?_;simp only[go_sem,simprocAttr,hst];refine aD.fnG (λ_=>gA c) ?_;simp only[go_sem,simprocAttr,h68,hst,N3];refine⟨λhb=>none_end (by grind),λhb=>⟨hlt,.here ?_⟩⟩;simp only[go_sem,simprocAttr,h0,h6,h7,h67,hst];grind [ag,oR]
 simp only[go_sem,simprocAttr,h0];refine ae.cut (λA=>A.env 0= .str u/\A.env 6= .str e/\A.env 7= .str r/\A.st=σ/\u.all DW=true) (λA ⟨h0,h6,h7,hst,hu⟩=>?_) ?_
 case refine_2=>
  refine VC.upto [] u.length (λj A=>A.env 0= .str u/\A.env 6= .str e/\A.env 7= .str r/\A.env 96= .int .i64 u.length/\A.env 97= .int .i64 j/\A.st=σ/\(u.take j).all DW=true) 0 (acG _) (.here ?_) λj A hj ⟨h0,h6,h7,h96,h97,hst,hI⟩=>?_
  .simp only[go_sem,simprocAttr,h0,h6,h7,hst];simp_all
  simp only[go_sem,simprocAttr,h0,h6,h7,h96,h97,hst];refine⟨λhlt=>⟨hlt,?_⟩,λhge=>by grind⟩;obtain⟨c,hc⟩:=get_some hlt;simp only[hc,acH];refine aj.fn (sV c) ?_;simp only[go_sem,simprocAttr,hst];refine aD.fnG (λ_=>gA c) ?_;simp only[go_sem,simprocAttr,h97,hst,Pz];refine⟨λhb=>none_end (by grind),λhb=>⟨hlt,.here ?_⟩⟩;simp only[go_sem,simprocAttr,h0,h6,h7,h96,hst];grind [ag,oR]
 simp only[go_sem,simprocAttr,h0,hst];cases u with
 |nil=>
  simp only[go_sem,simprocAttr];refine aD.fnG (λ_=>gA 0) ?_;simp only[go_sem,simprocAttr,h0,h6,h7,hst];grind [ic]
 |cons c u'=>
  simp only[go_sem,simprocAttr];refine aD.fnG (λ_=>gA c) ?_;simp only[go_sem,simprocAttr,h0,h6,h7,hst];refine⟨λhd=>none_end (by grind [ic]),λhd=>?_⟩;rw[hv,hr,hu];simp only[ic,hd,Bool.and_true,if_true];exact .refl _
theorem vk (s:List UInt8):ai prog W0 98 [.str s] (.bool (bI s)):=by
 refine ak [2] [] func98 rfl rfl ntmps98 rfl rfl (.bool _) λhs σ=>?_
 simp only[go_sem,simprocAttr];refine aj.fn (nG s) ?_;cases h:fL s with
 |none=>simp only[go_sem,simprocAttr,n9];grind [au,bI]
 |some v=>obtain⟨e,u,r⟩:=v;simp only[go_sem,simprocAttr,n9];grind [au,bI]
theorem mM (a b:List UInt8):ai prog W0 52 [.str a,.str b] (.int .i64 (bO a b)):=by
 refine ak [4] [14] func52 rfl rfl ntmps52 rfl rfl (.int _ _) λhs σ=>?_
 simp only[go_sem,simprocAttr];refine aj.fn (nG a) ?_;cases h:fL a with
 |none=>
  simp only[go_sem,simprocAttr,n9];refine aj.fn (nG b) ?_;cases h':fL b with
  |none=>simp only[go_sem,simprocAttr,n9];grind [az,bO]
  |some v=>obtain⟨f,v,t⟩:=v;simp only[go_sem,simprocAttr,n9];grind [az,bO]
 |some v=>
  obtain⟨e,u,r⟩:=v;simp only[go_sem,simprocAttr,n9];refine aj.fn (nG b) ?_;cases h':fL b with
  |none=>simp only[go_sem,simprocAttr,n9];grind [az,bO]
  |some v=>
   obtain⟨f,v,t⟩:=v;simp only[go_sem,simprocAttr,n9];refine VC.upto _ 3 (λi A=>A.env 45= .agg 173 [.agg 172 [.str e,.str f],.agg 172 [.str u,.str v],.agg 172 [.str r,.str t]]/\A.env 46= .int .i64 i/\Ext σ A.st/\(1<=i->bw e f=0)/\(2<=i->bw u v=0)/\(3<=i->bw r t=0)) 0 (acG _) (.here ?_) λi A hi ⟨h45,h46,hst,hI⟩=>?_
   .simp only[go_sem,simprocAttr];simp[Ext.refl]
   obtain⟨hI1,hI2,hI3⟩:=hI;have hc:bO a b=if bw e f≠0 then bw e f else if bw u v≠0 then bw u v else bw r t:=by grind [bO]
   rcases(show i=0\/i=1\/i=2\/i=3 by omega)with rfl|rfl|rfl|rfl
   .simp only[go_sem,simprocAttr,h45,h46];refine aj.fn (CL e f) ?_;simp only[go_sem,simprocAttr,h46];refine⟨λhp=>⟨az (by omega),hst.app _⟩,λhp=>.here ?_⟩;simp only[go_sem,simprocAttr,h45];grind [Ext.app]
   .simp only[go_sem,simprocAttr,h45,h46];refine aj.fn (CL u v) ?_;simp only[go_sem,simprocAttr,h46];refine⟨λhp=>⟨az (by omega),hst.app _⟩,λhp=>.here ?_⟩;simp only[go_sem,simprocAttr,h45];grind [Ext.app]
   .simp only[go_sem,simprocAttr,h45,h46];refine aj.fn (CL r t) ?_;simp only[go_sem,simprocAttr,h46];refine⟨λhp=>⟨az (by omega),hst.app _⟩,λhp=>.here ?_⟩;simp only[go_sem,simprocAttr,h45];grind [Ext.app]
   .simp only[go_sem,simprocAttr,h45,h46];exact⟨az (by omega),hst⟩
theorem im (a b:List UInt8):ai prog W0 50 [.str a,.str b] (.bool (bb a b)):=by
 refine ak [4] [] func50 rfl rfl ntmps50 rfl rfl (.bool _) λhs σ=>?_
 simp only[go_sem,simprocAttr];refine aj.fn (vk a) ?_;simp only[go_sem,simprocAttr];refine aD.fnG (λ_=>vk b) ?_;simp only[go_sem,simprocAttr];refine aD.fnG (λ_=>mM a b) ?_;simp only[go_sem,simprocAttr];exact au rfl
theorem D7 (rel:Int)(a b:List UInt8):ai prog W0 114 [.int .i64 rel,.str a,.str b] (.bool (fT rel a b)):=by
 refine ak [6] [] func114 rfl rfl ntmps114 rfl rfl (.bool _) λhs σ=>?_
 simp only[go_sem,simprocAttr];refine⟨λh0=>aj.fn (vk a) ?_,λh0=>aj.fn (vk a) ?_⟩
 .simp only[go_sem,simprocAttr];grind [au,fT]
 simp only[go_sem,simprocAttr];refine aD.fnG (λ_=>vk b) ?_;simp only[go_sem,simprocAttr];refine⟨λhb=>?_,λhb=>?_⟩
 .grind [au,fT]
 have hv:(bI a&&bI b)=true:=by simp_all
 have hh:fT rel a b=(if rel=1 then decide (bO a b<0)else if rel=2 then decide (bO a b<=0)else if rel=3 then bO a b==0
   else if rel=4 then decide (0<=bO a b)else if rel=5 then decide (0<bO a b)else false):=by grind [fT]
 refine aj.fn (mM a b) ?_;simp only[go_sem,simprocAttr];grind [au]
def KI (rel:Int):List UInt8:=if rel=1 then [60,60]else if rel=2 then [60,61]else if rel=3 then [61]else if rel=4 then [62,61]else if rel=5 then [62,62]else []
theorem PO (rel:Int):ai prog W0 180 [.int .i64 rel] (.str (KI rel)):=by
 refine ak [2] [] func180 rfl rfl ntmps180 rfl rfl (.str _) λhs σ=>?_
 simp only[go_sem,simprocAttr];grind [oo,KI]
end Go.Proofs.Tryz
end
