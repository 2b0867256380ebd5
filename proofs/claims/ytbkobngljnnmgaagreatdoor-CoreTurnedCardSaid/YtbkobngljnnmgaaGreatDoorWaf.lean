/- What the last text of this claim rests on. No conditions. -/
import Derived.Test.YtbkobngljnnmgaaGreatDoorWad
import Derived.Test.YtbkobngljnnmgaaGreatDoorWae
set_option linter.unusedSimpArgs false
set_option linter.unusedVariables false
open Nat renaming zero_le->ab4,le_trans->ab9
open Option renaming getD_some->ab5
open Bool renaming or_eq_false_iff->ab6,or_eq_true->ab8
open UInt8 renaming toNat_inj->ab7
section
namespace Go.Proofs.Tryz
open Go Go.Av
set_option maxRecDepth 10000
variable {W0 :World}
theorem D5 (c:UInt8):ag prog W0 167 [.int .u8 c.toNat] (.bool (jJ c)):=by
 refine ak [2] [] func167 rfl rfl ntmps167 rfl rfl (.bool _) λ_ σ=>?_
 simp only[go_sem,simprocAttr];grind [aq,jJ]
theorem gn (c:UInt8):ag prog W0 168 [.int .u8 c.toNat] (.bool (bk c)):=by
 refine ak [2] [] func168 rfl rfl ntmps168 rfl rfl (.bool _) λ_ σ=>?_
 simp only[go_sem,simprocAttr];grind [aq,bk]
theorem sN (c:UInt8):ag prog W0 175 [.int .u8 c.toNat] (.bool (eA c)):=by
 refine ak [2] [] func175 rfl rfl ntmps175 rfl rfl (.bool _) λ_ σ=>?_
 simp only[go_sem,simprocAttr];refine aj.fn (D5 c) ?_;simp only[go_sem,simprocAttr];grind [aq,eA]
theorem CK (a b:Int):ag prog W0 177 [.int .i64 a,.int .i64 b] (.int .i64 (sgn a b)):=by
 refine ak [4] [] func177 rfl rfl ntmps177 rfl rfl (.int _ _) λ_ σ=>?_
 simp only[go_sem,simprocAttr];grind [az,sgn]
theorem Sf (s:List UInt8)(c:UInt8):ag prog W0 173 [.str s,.int .u8 c.toNat] (.int .i64 (bD c s)):=by
 refine ak [4] [] func173 rfl rfl ntmps173 rfl rfl (.int _ _) λhs σ=>?_
 have hsl:s.length<=maxLen:=dy (hs _ (by simp));simp only[go_sem,simprocAttr];refine VC.upto [] s.length (λi A=>A.env 0= .str s/\A.env 1= .int .u8 c.toNat/\A.env 7= .int .i64 s.length/\A.env 8= .int .i64 i/\A.st=σ/\ ∀j d,j<i->s[j]?=some d-> ¬d=c) 0 (ab4 _) (.here ?_) λi A hi ⟨h0,h1,h7,h8,hst,hI⟩=>?_
 .simp only[go_sem,simprocAttr]
 simp only[go_sem,simprocAttr,h0,h1,h7,h8,hst];refine⟨λhc=>⟨hc,λh=>?_,λh=>⟨hc,.here ?_⟩⟩,λhc=>?_⟩
 .grind [az,IL]
 .simp only[go_sem,simprocAttr,h0,h1,h7,hst];grind [ah]
 grind [az,Bj]
theorem Tz (s:List UInt8)(c:UInt8):ag prog W0 174 [.str s,.int .u8 c.toNat] (.int .i64 (lastOf c s)):=by
 refine ak [4] [] func174 rfl rfl ntmps174 rfl rfl (.int _ _) λhs σ=>?_
 have hsl:s.length<=9223372036854775807:=dy (hs _ (by simp));simp only[go_sem,simprocAttr];refine VC.cB [] (λk A=>A.env 0= .str s/\A.env 1= .int .u8 c.toNat/\A.env 5= .int .i64 ((k:Int)-1)/\A.st=σ/\k<=s.length/\lastOf c s=kB c s k) s.length (.here ?_) λk A ⟨h0,h1,h5,hst,hk,hI⟩=>?_
 .simp only[go_sem,simprocAttr];grind [lastOf,aH]
 simp only[go_sem,simprocAttr,h0,h1,h5,hst];cases k with
 |zero=>
  refine⟨λh=>by simp at h,λ_=>az hI.symm⟩
 |succ i=>
  have e:((i+1:Nat):Int)-1=(i:Int):=by omega
  simp only[e];obtain⟨x,hx⟩:=get_some (show i<s.length by omega);simp only[go_sem,simprocAttr,hx];have hib:(i:Int)-1<=9223372036854775807:=by omega
  refine⟨by omega,λh=>az ?_,λh=>.here i (by omega) ?_⟩
  .grind [kB]
  .simp only[go_sem,simprocAttr,h0,h1,hst];grind [aH,kB]
theorem uI (s:List UInt8)(i:Nat):ag prog W0 176 [.str s,.int .i64 i] (.int .i64 (th s i)):=by
 refine ak [4] [] func176 rfl rfl ntmps176 rfl rfl (.int _ _) λhs σ=>?_
 simp only[go_sem,simprocAttr];refine aC.fnG (λ_=>gn _) ?_;simp only[go_sem,simprocAttr];refine⟨λh=>az ?_,λh=>?_⟩
 .grind [th]
 simp only[ab6,decide_eq_false_iff_not,Nat.not_le]at h;obtain⟨c,hc⟩:=get_some h.1;simp only[hc,ab5]at h ⊢;refine⟨by omega,λh1=>az ?_,λh1=>?_⟩
 .grind [th,wU]
 refine aj.fn (sN c) ?_;have h126: ¬c.toNat=126:=by omega
 have hc8:=c.toNat_lt;simp only[go_sem,simprocAttr];grind [az,aH,th,wU]
theorem Si (s:List UInt8):ag prog W0 179 [.str s] (.int .i64 (bV s)):=by
 refine ak [2] [] func179 rfl rfl ntmps179 rfl rfl (.int _ _) λhs σ=>?_
 have hsl:s.length<=maxLen:=dy (hs _ (by simp));simp only[go_sem,simprocAttr];refine VC.upto [] s.length (λi A=>A.env 0= .str s/\A.env 3= .int .i64 i/\A.st=σ/\ ∀c∈s.take i,bk c=true) 0 (ab4 _) (.here ?_) λi A hi ⟨h0,h3,hst,hI⟩=>?_
 .simp only[go_sem,simprocAttr];simp_all
 simp only[go_sem,simprocAttr,h0,h3,hst];refine aC.fnG (λ_=>gn _) ?_;simp only[go_sem,simprocAttr,h3,hst];rw[RL,Pw];refine⟨λ⟨c,hc,hd⟩=>?_,λh=>az (by grind [KC])⟩;have hlt:=(List.getElem?_eq_some_iff.1 hc).1;refine⟨hlt,.here ?_⟩;simp only[go_sem,simprocAttr,h0,hst];refine⟨ah hlt hsl,λd hd'=>?_⟩;rw[ai hc]at hd';grind
theorem KB (s:List UInt8):ag prog W0 178 [.str s] (.str (gk (bO s))):=by
 refine ak [2] [] func178 rfl rfl ntmps178 rfl rfl (.str _) λhs σ=>?_
 simp only[go_sem,simprocAttr];refine ae.cut (λA=>A.env 0= .str (bO s)/\A.st=σ) (λA ⟨h0,hst⟩=>?_) ?_
 .simp only[go_sem,simprocAttr];refine VC.cB [] (λk A=>∃ t,A.env 0= .str t/\A.st=σ/\k=t.length/\gk t=gk (bO s)) (bO s).length (.here ⟨bO s,h0,hst,rfl,rfl⟩) λk A ⟨t,h0,hst,hk,hI⟩=>?_
  cases t with
  |nil=>
   simp only[go_sem,simprocAttr,h0,hst];exact oF hI
  |cons c r=>
   simp only[go_sem,simprocAttr,h0,hst];refine⟨λh=>.here r.length (by simp_all) ⟨r,?_⟩,λh=>oF ?_⟩
   .simp only[go_sem,simprocAttr,hst]
    have:c=48:=ab7.1 (by grind);simp_all[gk]
   .rw[<-hI];simp[gk,show ¬c=48 from λe=>h (by simp_all)]
 refine VC.cB [] (λk A=>∃ t,A.env 0= .str t/\A.st=σ/\k=t.length/\bO t=bO s) s.length (.here ⟨s,?_⟩) λk A ⟨t,h0,hst,hk,hI⟩=>?_
 .simp only[go_sem,simprocAttr]
 cases t with
 |nil=>
  simp only[go_sem,Nat.reduceEqDiff,Nat.reduceLT,↓reduceIte,Int.reduceToNat,Int.reduceLE,Int.reduceLT,Int.reduceEq,Int.reduceBEq,Int.reduceBNe,Int.reduceNeg,Int.reduceAdd,Int.reduceSub,Nat.reduceBEq,Nat.reduceAdd,Nat.reduceMul,Nat.reduceSub,Nat.reduceLeDiff,h0,hst];refine aC.fnG (λ_=>gn _) ?_;simp only[go_sem,simprocAttr,h0,hst];rw[<-hI];rfl
 |cons c r=>
  simp only[go_sem,simprocAttr,h0,hst];refine aC.fnG (λ_=>gn _) ?_;simp only[go_sem,simprocAttr,h0,hst];refine⟨λh=>.here r.length (by simp_all) ⟨r,?_⟩,λh=>?_⟩
  .simp only[go_sem,simprocAttr,hst];simp_all[bO]
  simp_all[bO]
theorem CU (a b:List UInt8):ag prog W0 110 [.str a,.str b] (.int .i64 (bt a b)):=by
 refine ak [4] [] func110 rfl rfl ntmps110 rfl rfl (.int _ _) λhs σ=>?_
 have hal:a.length<=maxLen:=dy (hs (.str a) (by simp));have hbl:b.length<=maxLen:=dy (hs (.str b) (by simp));simp only[go_sem,simprocAttr];refine VC.cB [] (λk A=>∃ x y,A.env 0= .str x/\A.env 1= .str y/\A.st=σ/\k=x.length+y.length/\bt x y=bt a b/\x.length<=maxLen/\y.length<=maxLen) (a.length+b.length) (.here ⟨a,b,?_⟩) λk A ⟨x,y,h0,h1,hst,hk,hI,hx,hy⟩=>?_
 .simp only[go_sem,simprocAttr];omega
 simp only[go_sem,simprocAttr,h0,h1,hst];refine⟨λhc=>?_,λhc=>?_⟩
 case refine_2=>
  grind [az,bt]
 have hne: ¬(x=[]/\y=[]):=λ⟨e,e'⟩=>by simp_all
 refine ae.cut (λA=>A.env 0= .str x/\A.env 1= .str y/\A.st=σ/\cw x y=0) (λA ⟨h0,h1,hst,hs0⟩=>?_) ?_
 case refine_2=>
  refine VC.upto [] x.length (λi A=>A.env 0= .str x/\A.env 1= .str y/\A.env 5= .int .i64 i/\A.st=σ/\cw (x.drop i) (y.drop i)=cw x y) 0 (ab4 _) (.here ?_) λi A hi ⟨h0,h1,h5,hst,hI'⟩=>?_
  .simp only[go_sem,simprocAttr,h0,h1,hst]
   all_goals simp
  simp only[go_sem,simprocAttr,h0,h5];refine aj.fn (uI x i) ?_;simp only[go_sem,simprocAttr,h1,h5,hst];refine aC.fnG (λ_=>uI y i) ?_;simp only[go_sem,simprocAttr,h0,h1,h5,hst];refine⟨λhr=>?_,λhr=>?_⟩
  case refine_2=>
   grind [nO,lg]
  refine aj.fn (uI x i) ?_;simp only[go_sem,simprocAttr,h1,h5];refine aj.fn (uI y i) ?_;simp only[go_sem,simprocAttr];refine aj.fn (CK _ _) ?_;simp only[go_sem,simprocAttr,h5,hst];rw[nO,nO]at hr ⊢;refine⟨λhne'=>az ?_,λhe=>?_⟩
  .grind [sgn,dW,bt]
  .have e:=pM he;have hr1:rk (x.drop i)≠0:=λh0=>by simp_all
   obtain⟨c,r,hcr,_⟩:=F1 hr1;have hlt:i<x.length:=by
    grind
   refine⟨hlt,.here ?_⟩;simp only[go_sem,simprocAttr,h0,h1,hst];grind [ah,gN,List.tail_drop]
 simp only[go_sem,simprocAttr,h0];refine aj.fn (KB x) ?_;simp only[go_sem,simprocAttr,h1];refine aj.fn (KB y) ?_;simp only[go_sem,simprocAttr];refine aj.fn (Si _) ?_;simp only[go_sem,simprocAttr];refine aj.fn (Si _) ?_;simp only[go_sem,simprocAttr];rw[show gk (bO x)=bc x from rfl,show gk (bO y)=bc y from rfl];have hnx:=ux x;have hny:=ux y;refine⟨λhm=>?_,λhm=>?_⟩
 .refine aj.fn (CK _ _) ?_;simp only[go_sem,simprocAttr,hst];grind [az,bt]
 have hm1:=rq (bc x);have hm2:=rq (bc y);refine ae.cut (λA=>A.env 0= .str (bc x)/\A.env 1= .str (bc y)/\A.env 7= .int .i64 (bV (bc x))/\A.env 8= .int .i64 (bV (bc y))/\A.st=σ/\iF ((bc x).take (bV (bc x))) ((bc y).take (bV (bc y)))=0) (λA ⟨h0,h1,h7,h8,hst,hl0⟩=>?_) ?_
 .simp only[go_sem,simprocAttr,h0,h1,h7,h8];refine⟨.of (by kernel_rfl),hm1,hm2,.here (((bc x).drop (bV (bc x))).length+((bc y).drop (bV (bc y))).length) (by rw[hk];exact vR hne) ⟨(bc x).drop (bV (bc x)),(bc y).drop (bV (bc y)),?_⟩⟩;simp only[go_sem,simprocAttr,hst];grind [bt.eq_def]
 refine VC.upto [] (bV (bc x)) (λi A=>A.env 0= .str (bc x)/\A.env 1= .str (bc y)/\A.env 7= .int .i64 (bV (bc x))/\A.env 8= .int .i64 (bV (bc y))/\A.env 53= .int .i64 (bV (bc x))/\A.env 54= .int .i64 i/\A.st=σ/\(bc x).take i=(bc y).take i) 0 (ab4 _) (.here ?_) λi A hi ⟨h0,h1,h7,h8,h53,h54,hst,hp⟩=>?_
 .simp only[go_sem,simprocAttr,hst];simp_all
 simp only[go_sem,simprocAttr,h0,h1,h7,h8,h53,h54,hst];refine⟨λhlt=>?_,λhge=>?_⟩
 .obtain⟨c,hc⟩:=get_some (show i<(bc x).length by omega);obtain⟨d,hd⟩:=get_some (show i<(bc y).length by omega);have hc8:=c.toNat_lt;have hd8:=d.toNat_lt;refine⟨.of (by kernel_rfl),by omega,by omega,?_⟩;simp only[hc,hd,ab5];refine aC.fn (CK _ _) ?_;simp only[go_sem,simprocAttr,h54,hst];refine⟨λhne'=>az ?_,λhe=>⟨hlt,.here ?_⟩⟩
  .have hcd:c≠d:=λe=>hne' (by rw[e,rM])
   have hl:iF ((bc x).take (bV (bc x))) ((bc y).take (bV (bc y)))=sgn c.toNat d.toNat:=by
    refine UF (i:=i) ?_ ?_ ?_ hcd
    .grind
    .grind
    grind
   grind [bt.eq_def]
  .simp only[go_sem,simprocAttr,h0,h1,h7,h8,h53,hst];refine⟨ah hlt (ab9 hm1 (ab9 hnx hx)),?_⟩;have:=pM he;rw[ai hc,ai hd,hp,show c=d from ab7.1 (by omega)]
 grind [Mf]
def oP :Option (List UInt8×List UInt8×List UInt8)->AV
 |none=>.tup [.str [],.str [],.str [],.bool false]
 |some (e,u,r)=>.tup [.str e,.str u,.str r,.bool true]
theorem Oa (v:Option (List UInt8×List UInt8×List UInt8)):aV 0 (oP v):=by
 cases v<;>refine .tup λx hx=>?_<;>simp at hx
 .rcases hx with rfl|rfl
  .exact .str _
  .exact .bool _
 .rcases hx with rfl|rfl|rfl|rfl
  .exact .str _
  .exact .str _
  .exact .str _
  .exact .bool _
theorem n5 {s:List UInt8}{f:UInt8->Bool}{i:Nat}{c:UInt8}(h:(s.take i).all f=true)(hc:s[i]?=some c)(hf:f c=true):(s.take (i+1)).all f=true:=by
 simp_all[ai]
theorem mT (s:List UInt8):ag prog W0 109 [.str s] (oP (fD s)):=by
 refine ak [2,3,4,5] [] func109 rfl rfl ntmps109 rfl rfl (Oa _) λhs σ=>?_
 have hsl:s.length<=maxLen:=dy (hs (.str s) (by simp));have none_end:fD s=none->df (AV.tup [.str [],.str [],.str [],.bool false]) (oP (fD s)):=λe=>by rw[e];exact .refl _
 simp only[go_sem,simprocAttr];simp only[ab8,ab6,decide_eq_true_eq,decide_eq_false_iff_not,beq_iff_eq,beq_eq_false_iff_ne];refine⟨λh=>none_end (by grind [fD]),λh=>?_⟩;have hlen: ¬(s.length=0\/48<s.length):=by omega
 refine aj.fn (Sf s 58) ?_;simp only[go_sem,simprocAttr];refine cj.cut (λA=>∃ e t,tf s=some (e,t)/\A.env 0= .str t/\A.env 6= .str e/\A.env 7= .str []/\A.st=σ/\t.length<=s.length) (λA ⟨e,t,hep,h0,h6,h7,hst,htl⟩=>?_) (λhf=>?_) (λhf=>?_)
 case refine_3=>
  simp only[go_sem,simprocAttr];grind [tf]
 case refine_2=>
  obtain⟨i,hi,hgi,hlt⟩:=(lF 58 s).resolve_left (λe=>by simp_all);rw[hi];have hw:IntKind.i64.wrap ((i:Int)+1)=((i+1:Nat):Int):=j7 hlt hsl;have hep:tf s=if 1<=(s.take i).length/\(s.take i).length<=9/\(s.take i).all bk=true then some (s.take i,s.drop (i+1))else none:=by
   grind [tf]
  have bad: ¬(1<=(s.take i).length/\(s.take i).length<=9/\(s.take i).all bk=true)->fD s=none:=λhb=>by
   grind [fD]
  simp only[go_sem,simprocAttr,hw];refine⟨.of (by kernel_rfl),by omega,by omega,?_⟩;simp only[ab8,ab6,decide_eq_true_eq,decide_eq_false_iff_not];refine⟨λhb=>none_end (bad (by omega)),λhb=>?_⟩;have htk:(s.take i).length=i:=by grind
  refine VC.upto [] i (λj A=>A.env 0= .str (s.drop (i+1))/\A.env 6= .str (s.take i)/\A.env 7= .str []/\A.env 43= .int .i64 i/\A.env 44= .int .i64 j/\A.st=σ/\((s.take i).take j).all bk=true) 0 (ab4 _) (.here ?_) λj A hj ⟨h0,h6,h7,h43,h44,hst,hI⟩=>?_
  .simp only[go_sem,simprocAttr];simp_all
  simp only[go_sem,simprocAttr,h0,h6,h7,h43,h44,hst];refine⟨λhlt'=>⟨by omega,?_⟩,λhge=>⟨s.take i,s.drop (i+1),?_⟩⟩
  .obtain⟨c,hc⟩:=get_some (show j<(s.take i).length by omega);simp only[hc,ab5];refine aj.fn (gn c) ?_;simp only[go_sem,simprocAttr,h44,hst];refine⟨λhd=>none_end (bad λhb=>?_),λhd=>⟨hlt',.here ?_⟩⟩
   .grind
   .simp only[go_sem,simprocAttr,h0,h6,h7,h43,hst];grind [ah,n5]
  .have:j=i:=by omega
   rw[this,List.take_take,Nat.min_self]at hI;simp only[go_sem,simprocAttr];grind
 simp only[go_sem,simprocAttr,h0];refine aj.fn (Tz t 45) ?_;simp only[go_sem,simprocAttr];refine cj.cut (λA=>∃ u r,xM t=some (u,r)/\A.env 0= .str u/\A.env 6= .str e/\A.env 7= .str r/\A.st=σ/\u.length<=s.length/\r.length<=s.length) (λA ⟨u,r,hrv,h0,h6,h7,hst,hul,hrl⟩=>?_) (λhf=>?_) (λhf=>?_)
 case refine_3=>
  simp only[go_sem,simprocAttr,h0,h6,h7,hst];grind [xM]
 case refine_2=>
  obtain⟨i,hi,hgi,hlt⟩:=(qE 45 t).resolve_left (λe=>by simp_all);rw[hi];have hw:IntKind.i64.wrap ((i:Int)+1)=((i+1:Nat):Int):=j7 hlt (by omega);have hrv:xM t=if t.drop (i+1)=[]then none else some (t.take i,t.drop (i+1)):=by
   grind [xM]
  simp only[go_sem,simprocAttr,hw,h0,h6,hst];refine⟨.of (by kernel_rfl),by omega,by omega,λhb=>none_end (by grind [fD]),λhb=>⟨t.take i,t.drop (i+1),?_⟩⟩;grind
 have hv:fD s=if r.all tv&&u.all Er&&ib u then some (e,u,r)else none:=by
  grind [fD]
 simp only[go_sem,simprocAttr,h7];refine ae.cut (λA=>A.env 0= .str u/\A.env 6= .str e/\A.env 7= .str r/\A.st=σ/\r.all tv=true) (λA ⟨h0,h6,h7,hst,hr⟩=>?_) ?_
 case refine_2=>
  refine VC.upto [] r.length (λj A=>A.env 0= .str u/\A.env 6= .str e/\A.env 7= .str r/\A.env 67= .int .i64 r.length/\A.env 68= .int .i64 j/\A.st=σ/\(r.take j).all tv=true) 0 (ab4 _) (.here ?_) λj A hj ⟨h0,h6,h7,h67,h68,hst,hI⟩=>?_
  .simp only[go_sem,simprocAttr,h0,h6,h7,hst];simp_all
  simp only[go_sem,simprocAttr,h0,h6,h7,h67,h68,hst];refine⟨λhlt=>⟨hlt,?_⟩,λhge=>by grind⟩;obtain⟨c,hc⟩:=get_some hlt;simp only[hc,ab5];refine aj.fn (sN c) ?_;simp only[go_sem,simprocAttr,hst];refine aC.fnG (λ_=>gn c) ?_;simp only[go_sem,simprocAttr,h68,hst,Lc];refine⟨λhb=>none_end (by grind),λhb=>⟨hlt,.here ?_⟩⟩;simp only[go_sem,simprocAttr,h0,h6,h7,h67,hst];grind [ah,n5]
 simp only[go_sem,simprocAttr,h0];refine ae.cut (λA=>A.env 0= .str u/\A.env 6= .str e/\A.env 7= .str r/\A.st=σ/\u.all Er=true) (λA ⟨h0,h6,h7,hst,hu⟩=>?_) ?_
 case refine_2=>
  refine VC.upto [] u.length (λj A=>A.env 0= .str u/\A.env 6= .str e/\A.env 7= .str r/\A.env 96= .int .i64 u.length/\A.env 97= .int .i64 j/\A.st=σ/\(u.take j).all Er=true) 0 (ab4 _) (.here ?_) λj A hj ⟨h0,h6,h7,h96,h97,hst,hI⟩=>?_
  .simp only[go_sem,simprocAttr,h0,h6,h7,hst];simp_all
  simp only[go_sem,simprocAttr,h0,h6,h7,h96,h97,hst];refine⟨λhlt=>⟨hlt,?_⟩,λhge=>by grind⟩;obtain⟨c,hc⟩:=get_some hlt;simp only[hc,ab5];refine aj.fn (sN c) ?_;simp only[go_sem,simprocAttr,hst];refine aC.fnG (λ_=>gn c) ?_;simp only[go_sem,simprocAttr,h97,hst,Qd];refine⟨λhb=>none_end (by grind),λhb=>⟨hlt,.here ?_⟩⟩;simp only[go_sem,simprocAttr,h0,h6,h7,h96,hst];grind [ah,n5]
 simp only[go_sem,simprocAttr,h0,hst];cases u with
 |nil=>
  simp only[go_sem,simprocAttr];refine aC.fnG (λ_=>gn 0) ?_;simp only[go_sem,simprocAttr,h0,h6,h7,hst];grind [ib]
 |cons c u'=>
  simp only[go_sem,simprocAttr];refine aC.fnG (λ_=>gn c) ?_;simp only[go_sem,simprocAttr,h0,h6,h7,hst];refine⟨λhd=>none_end (by grind [ib]),λhd=>?_⟩;rw[hv,hr,hu];simp only[ib,hd,Bool.and_true,if_true];exact .refl _
theorem KO (s:List UInt8):ag prog W0 98 [.str s] (.bool (bM s)):=by
 refine ak [2] [] func98 rfl rfl ntmps98 rfl rfl (.bool _) λhs σ=>?_
 simp only[go_sem,simprocAttr];refine aj.fn (mT s) ?_;cases h:fD s with
 |none=>simp only[go_sem,simprocAttr,oP];grind [aq,bM]
 |some v=>obtain⟨e,u,r⟩:=v;simp only[go_sem,simprocAttr,oP];grind [aq,bM]
theorem vB (a b:List UInt8):ag prog W0 52 [.str a,.str b] (.int .i64 (cc a b)):=by
 refine ak [4] [14] func52 rfl rfl ntmps52 rfl rfl (.int _ _) λhs σ=>?_
 simp only[go_sem,simprocAttr];refine aj.fn (mT a) ?_;cases h:fD a with
 |none=>
  simp only[go_sem,simprocAttr,oP];refine aj.fn (mT b) ?_;cases h':fD b with
  |none=>simp only[go_sem,simprocAttr,oP];grind [az,cc]
  |some v=>obtain⟨f,v,t⟩:=v;simp only[go_sem,simprocAttr,oP];grind [az,cc]
 |some v=>
  obtain⟨e,u,r⟩:=v;simp only[go_sem,simprocAttr,oP];refine aj.fn (mT b) ?_;cases h':fD b with
  |none=>simp only[go_sem,simprocAttr,oP];grind [az,cc]
  |some v=>
   obtain⟨f,v,t⟩:=v;simp only[go_sem,simprocAttr,oP];refine VC.upto _ 3 (λi A=>A.env 45= .agg 173 [.agg 172 [.str e,.str f],.agg 172 [.str u,.str v],.agg 172 [.str r,.str t]]/\A.env 46= .int .i64 i/\Ext σ A.st/\(1<=i->bt e f=0)/\(2<=i->bt u v=0)/\(3<=i->bt r t=0)) 0 (ab4 _) (.here ?_) λi A hi ⟨h45,h46,hst,hI⟩=>?_
   .simp only[go_sem,simprocAttr];simp[Ext.refl]
   obtain⟨hI1,hI2,hI3⟩:=hI;have hc:cc a b=if bt e f≠0 then bt e f else if bt u v≠0 then bt u v else bt r t:=by grind [cc]
   rcases(show i=0\/i=1\/i=2\/i=3 by omega)with rfl|rfl|rfl|rfl
   .simp only[go_sem,simprocAttr,h45,h46];refine aj.fn (CU e f) ?_;simp only[go_sem,simprocAttr,h46];refine⟨λhp=>⟨az (by omega),hst.app _⟩,λhp=>.here ?_⟩;simp only[go_sem,simprocAttr,h45];grind [Ext.app]
   .simp only[go_sem,simprocAttr,h45,h46];refine aj.fn (CU u v) ?_;simp only[go_sem,simprocAttr,h46];refine⟨λhp=>⟨az (by omega),hst.app _⟩,λhp=>.here ?_⟩;simp only[go_sem,simprocAttr,h45];grind [Ext.app]
   .simp only[go_sem,simprocAttr,h45,h46];refine aj.fn (CU r t) ?_;simp only[go_sem,simprocAttr,h46];refine⟨λhp=>⟨az (by omega),hst.app _⟩,λhp=>.here ?_⟩;simp only[go_sem,simprocAttr,h45];grind [Ext.app]
   .simp only[go_sem,simprocAttr,h45,h46];exact⟨az (by omega),hst⟩
theorem kh (a b:List UInt8):ag prog W0 50 [.str a,.str b] (.bool (bn a b)):=by
 refine ak [4] [] func50 rfl rfl ntmps50 rfl rfl (.bool _) λhs σ=>?_
 simp only[go_sem,simprocAttr];refine aj.fn (KO a) ?_;simp only[go_sem,simprocAttr];refine aC.fnG (λ_=>KO b) ?_;simp only[go_sem,simprocAttr];refine aC.fnG (λ_=>vB a b) ?_;simp only[go_sem,simprocAttr];exact aq rfl
def Kb (rel:Int):List UInt8:=if rel=1 then [60,60]else if rel=2 then [60,61]else if rel=3 then [61]else if rel=4 then [62,61]else if rel=5 then [62,62]else []
theorem OF (rel:Int):ag prog W0 180 [.int .i64 rel] (.str (Kb rel)):=by
 refine ak [2] [] func180 rfl rfl ntmps180 rfl rfl (.str _) λhs σ=>?_
 simp only[go_sem,simprocAttr];grind [oF,Kb]
end Go.Proofs.Tryz
end
