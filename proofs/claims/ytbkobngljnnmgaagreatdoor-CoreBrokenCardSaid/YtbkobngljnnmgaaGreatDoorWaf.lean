/- What the last text of this claim rests on. No conditions. -/
import Derived.Test.YtbkobngljnnmgaaGreatDoorWad
import Derived.Test.YtbkobngljnnmgaaGreatDoorWae
set_option linter.unusedSimpArgs false
set_option linter.unusedVariables false
open Nat renaming zero_le->acf,le_trans->ack
open Option renaming getD_some->acg
open Bool renaming or_eq_false_iff->ach,or_eq_true->acj
open UInt8 renaming toNat_inj->aci
section
namespace Go.Proofs.Tryz
open Go Go.Av
set_option maxRecDepth 10000
variable {W0 :World}
theorem Eu (c:UInt8):ai prog W0 167 [.int .u8 c.toNat] (.bool (jY c)):=by
 refine an [2] [] func167 rfl rfl ntmps167 rfl rfl (.bool _) λ_ σ=>?_
 simp only[go_sem,simprocAttr];grind [ar,jY]
theorem gz (c:UInt8):ai prog W0 168 [.int .u8 c.toNat] (.bool (bk c)):=by
 refine an [2] [] func168 rfl rfl ntmps168 rfl rfl (.bool _) λ_ σ=>?_
 simp only[go_sem,simprocAttr];grind [ar,bk]
theorem sw (c:UInt8):ai prog W0 175 [.int .u8 c.toNat] (.bool (eK c)):=by
 refine an [2] [] func175 rfl rfl ntmps175 rfl rfl (.bool _) λ_ σ=>?_
 simp only[go_sem,simprocAttr];refine aj.fn (Eu c) ?_;simp only[go_sem,simprocAttr];grind [ar,eK]
theorem CC (a b:Int):ai prog W0 177 [.int .i64 a,.int .i64 b] (.int .i64 (sgn a b)):=by
 refine an [4] [] func177 rfl rfl ntmps177 rfl rfl (.int _ _) λ_ σ=>?_
 simp only[go_sem,simprocAttr];grind [az,sgn]
theorem Po (s:List UInt8)(c:UInt8):ai prog W0 173 [.str s,.int .u8 c.toNat] (.int .i64 (bD c s)):=by
 refine an [4] [] func173 rfl rfl ntmps173 rfl rfl (.int _ _) λhs σ=>?_
 have hsl:s.length<=maxLen:=dC (hs _ (by simp));simp only[go_sem,simprocAttr];refine VC.upto [] s.length (λi A=>A.env 0= .str s/\A.env 1= .int .u8 c.toNat/\A.env 7= .int .i64 s.length/\A.env 8= .int .i64 i/\A.st=σ/\ ∀j d,j<i->s[j]?=some d-> ¬d=c) 0 (acf _) (.here ?_) λi A hi ⟨h0,h1,h7,h8,hst,hI⟩=>?_
 .simp only[go_sem,simprocAttr]
 simp only[go_sem,simprocAttr,h0,h1,h7,h8,hst];refine⟨λhc=>⟨hc,λh=>?_,λh=>⟨hc,.here ?_⟩⟩,λhc=>?_⟩
 .grind [az,GN]
 .simp only[go_sem,simprocAttr,h0,h1,h7,hst];grind [ag]
 grind [az,CV]
theorem We (s:List UInt8)(c:UInt8):ai prog W0 174 [.str s,.int .u8 c.toNat] (.int .i64 (lastOf c s)):=by
 refine an [4] [] func174 rfl rfl ntmps174 rfl rfl (.int _ _) λhs σ=>?_
 have hsl:s.length<=9223372036854775807:=dC (hs _ (by simp));simp only[go_sem,simprocAttr];refine VC.cB [] (λk A=>A.env 0= .str s/\A.env 1= .int .u8 c.toNat/\A.env 5= .int .i64 ((k:Int)-1)/\A.st=σ/\k<=s.length/\lastOf c s=kE c s k) s.length (.here ?_) λk A ⟨h0,h1,h5,hst,hk,hI⟩=>?_
 .simp only[go_sem,simprocAttr];grind [lastOf,aJ]
 simp only[go_sem,simprocAttr,h0,h1,h5,hst];cases k with
 |zero=>
  refine⟨λh=>by simp at h,λ_=>az hI.symm⟩
 |succ i=>
  have e:((i+1:Nat):Int)-1=(i:Int):=by omega
  simp only[e];obtain⟨x,hx⟩:=get_some (show i<s.length by omega);simp only[go_sem,simprocAttr,hx];have hib:(i:Int)-1<=9223372036854775807:=by omega
  refine⟨by omega,λh=>az ?_,λh=>.here i (by omega) ?_⟩
  .grind [kE]
  .simp only[go_sem,simprocAttr,h0,h1,hst];grind [aJ,kE]
theorem uK (s:List UInt8)(i:Nat):ai prog W0 176 [.str s,.int .i64 i] (.int .i64 (tn s i)):=by
 refine an [4] [] func176 rfl rfl ntmps176 rfl rfl (.int _ _) λhs σ=>?_
 simp only[go_sem,simprocAttr];refine aD.fnG (λ_=>gz _) ?_;simp only[go_sem,simprocAttr];refine⟨λh=>az ?_,λh=>?_⟩
 .grind [tn]
 simp only[ach,decide_eq_false_iff_not,Nat.not_le]at h;obtain⟨c,hc⟩:=get_some h.1;simp only[hc,acg]at h ⊢;refine⟨by omega,λh1=>az ?_,λh1=>?_⟩
 .grind [tn,yg]
 refine aj.fn (sw c) ?_;have h126: ¬c.toNat=126:=by omega
 have hc8:=c.toNat_lt;simp only[go_sem,simprocAttr];grind [az,aJ,tn,yg]
theorem O3 (s:List UInt8):ai prog W0 179 [.str s] (.int .i64 (bV s)):=by
 refine an [2] [] func179 rfl rfl ntmps179 rfl rfl (.int _ _) λhs σ=>?_
 have hsl:s.length<=maxLen:=dC (hs _ (by simp));simp only[go_sem,simprocAttr];refine VC.upto [] s.length (λi A=>A.env 0= .str s/\A.env 3= .int .i64 i/\A.st=σ/\ ∀c∈s.take i,bk c=true) 0 (acf _) (.here ?_) λi A hi ⟨h0,h3,hst,hI⟩=>?_
 .simp only[go_sem,simprocAttr];simp_all
 simp only[go_sem,simprocAttr,h0,h3,hst];refine aD.fnG (λ_=>gz _) ?_;simp only[go_sem,simprocAttr,h3,hst];rw[Rz,QA];refine⟨λ⟨c,hc,hd⟩=>?_,λh=>az (by grind [Kj])⟩;have hlt:=(List.getElem?_eq_some_iff.1 hc).1;refine⟨hlt,.here ?_⟩;simp only[go_sem,simprocAttr,h0,hst];refine⟨ag hlt hsl,λd hd'=>?_⟩;rw[ah hc]at hd';grind
theorem KQ (s:List UInt8):ai prog W0 178 [.str s] (.str (gA (bN s))):=by
 refine an [2] [] func178 rfl rfl ntmps178 rfl rfl (.str _) λhs σ=>?_
 simp only[go_sem,simprocAttr];refine ae.cut (λA=>A.env 0= .str (bN s)/\A.st=σ) (λA ⟨h0,hst⟩=>?_) ?_
 .simp only[go_sem,simprocAttr];refine VC.cB [] (λk A=>∃ t,A.env 0= .str t/\A.st=σ/\k=t.length/\gA t=gA (bN s)) (bN s).length (.here ⟨bN s,h0,hst,rfl,rfl⟩) λk A ⟨t,h0,hst,hk,hI⟩=>?_
  cases t with
  |nil=>
   simp only[go_sem,simprocAttr,h0,hst];exact n9 hI
  |cons c r=>
   simp only[go_sem,simprocAttr,h0,hst];refine⟨λh=>.here r.length (by simp_all) ⟨r,?_⟩,λh=>n9 ?_⟩
   .simp only[go_sem,simprocAttr,hst]
    have:c=48:=aci.1 (by grind);simp_all[gA]
   .rw[<-hI];simp[gA,show ¬c=48 from λe=>h (by simp_all)]
 refine VC.cB [] (λk A=>∃ t,A.env 0= .str t/\A.st=σ/\k=t.length/\bN t=bN s) s.length (.here ⟨s,?_⟩) λk A ⟨t,h0,hst,hk,hI⟩=>?_
 .simp only[go_sem,simprocAttr]
 cases t with
 |nil=>
  simp only[go_sem,Nat.reduceEqDiff,Nat.reduceLT,↓reduceIte,Int.reduceToNat,Int.reduceLE,Int.reduceLT,Int.reduceEq,Int.reduceBEq,Int.reduceBNe,Int.reduceNeg,Int.reduceAdd,Int.reduceSub,Nat.reduceBEq,Nat.reduceAdd,Nat.reduceMul,Nat.reduceSub,Nat.reduceLeDiff,h0,hst];refine aD.fnG (λ_=>gz _) ?_;simp only[go_sem,simprocAttr,h0,hst];rw[<-hI];rfl
 |cons c r=>
  simp only[go_sem,simprocAttr,h0,hst];refine aD.fnG (λ_=>gz _) ?_;simp only[go_sem,simprocAttr,h0,hst];refine⟨λh=>.here r.length (by simp_all) ⟨r,?_⟩,λh=>?_⟩
  .simp only[go_sem,simprocAttr,hst];simp_all[bN]
  simp_all[bN]
theorem BM (a b:List UInt8):ai prog W0 110 [.str a,.str b] (.int .i64 (bw a b)):=by
 refine an [4] [] func110 rfl rfl ntmps110 rfl rfl (.int _ _) λhs σ=>?_
 have hal:a.length<=maxLen:=dC (hs (.str a) (by simp));have hbl:b.length<=maxLen:=dC (hs (.str b) (by simp));simp only[go_sem,simprocAttr];refine VC.cB [] (λk A=>∃ x y,A.env 0= .str x/\A.env 1= .str y/\A.st=σ/\k=x.length+y.length/\bw x y=bw a b/\x.length<=maxLen/\y.length<=maxLen) (a.length+b.length) (.here ⟨a,b,?_⟩) λk A ⟨x,y,h0,h1,hst,hk,hI,hx,hy⟩=>?_
 .simp only[go_sem,simprocAttr];omega
 simp only[go_sem,simprocAttr,h0,h1,hst];refine⟨λhc=>?_,λhc=>?_⟩
 case refine_2=>
  grind [az,bw]
 have hne: ¬(x=[]/\y=[]):=λ⟨e,e'⟩=>by simp_all
 refine ae.cut (λA=>A.env 0= .str x/\A.env 1= .str y/\A.st=σ/\cu x y=0) (λA ⟨h0,h1,hst,hs0⟩=>?_) ?_
 case refine_2=>
  refine VC.upto [] x.length (λi A=>A.env 0= .str x/\A.env 1= .str y/\A.env 5= .int .i64 i/\A.st=σ/\cu (x.drop i) (y.drop i)=cu x y) 0 (acf _) (.here ?_) λi A hi ⟨h0,h1,h5,hst,hI'⟩=>?_
  .simp only[go_sem,simprocAttr,h0,h1,hst]
   all_goals simp
  simp only[go_sem,simprocAttr,h0,h5];refine aj.fn (uK x i) ?_;simp only[go_sem,simprocAttr,h1,h5,hst];refine aD.fnG (λ_=>uK y i) ?_;simp only[go_sem,simprocAttr,h0,h1,h5,hst];refine⟨λhr=>?_,λhr=>?_⟩
  case refine_2=>
   grind [oB,lp]
  refine aj.fn (uK x i) ?_;simp only[go_sem,simprocAttr,h1,h5];refine aj.fn (uK y i) ?_;simp only[go_sem,simprocAttr];refine aj.fn (CC _ _) ?_;simp only[go_sem,simprocAttr,h5,hst];rw[oB,oB]at hr ⊢;refine⟨λhne'=>az ?_,λhe=>?_⟩
  .grind [sgn,ee,bw]
  .have e:=ql he;have hr1:rk (x.drop i)≠0:=λh0=>by simp_all
   obtain⟨c,r,hcr,_⟩:=Ex hr1;have hlt:i<x.length:=by
    grind
   refine⟨hlt,.here ?_⟩;simp only[go_sem,simprocAttr,h0,h1,hst];grind [ag,gY,List.tail_drop]
 simp only[go_sem,simprocAttr,h0];refine aj.fn (KQ x) ?_;simp only[go_sem,simprocAttr,h1];refine aj.fn (KQ y) ?_;simp only[go_sem,simprocAttr];refine aj.fn (O3 _) ?_;simp only[go_sem,simprocAttr];refine aj.fn (O3 _) ?_;simp only[go_sem,simprocAttr];rw[show gA (bN x)=bc x from rfl,show gA (bN y)=bc y from rfl];have hnx:=uM x;have hny:=uM y;refine⟨λhm=>?_,λhm=>?_⟩
 .refine aj.fn (CC _ _) ?_;simp only[go_sem,simprocAttr,hst];grind [az,bw]
 have hm1:=qI (bc x);have hm2:=qI (bc y);refine ae.cut (λA=>A.env 0= .str (bc x)/\A.env 1= .str (bc y)/\A.env 7= .int .i64 (bV (bc x))/\A.env 8= .int .i64 (bV (bc y))/\A.st=σ/\iQ ((bc x).take (bV (bc x))) ((bc y).take (bV (bc y)))=0) (λA ⟨h0,h1,h7,h8,hst,hl0⟩=>?_) ?_
 .simp only[go_sem,simprocAttr,h0,h1,h7,h8];refine⟨.of (by kernel_rfl),hm1,hm2,.here (((bc x).drop (bV (bc x))).length+((bc y).drop (bV (bc y))).length) (by rw[hk];exact xH hne) ⟨(bc x).drop (bV (bc x)),(bc y).drop (bV (bc y)),?_⟩⟩;simp only[go_sem,simprocAttr,hst];grind [bw.eq_def]
 refine VC.upto [] (bV (bc x)) (λi A=>A.env 0= .str (bc x)/\A.env 1= .str (bc y)/\A.env 7= .int .i64 (bV (bc x))/\A.env 8= .int .i64 (bV (bc y))/\A.env 53= .int .i64 (bV (bc x))/\A.env 54= .int .i64 i/\A.st=σ/\(bc x).take i=(bc y).take i) 0 (acf _) (.here ?_) λi A hi ⟨h0,h1,h7,h8,h53,h54,hst,hp⟩=>?_
 .simp only[go_sem,simprocAttr,hst];simp_all
 simp only[go_sem,simprocAttr,h0,h1,h7,h8,h53,h54,hst];refine⟨λhlt=>?_,λhge=>?_⟩
 .obtain⟨c,hc⟩:=get_some (show i<(bc x).length by omega);obtain⟨d,hd⟩:=get_some (show i<(bc y).length by omega);have hc8:=c.toNat_lt;have hd8:=d.toNat_lt;refine⟨.of (by kernel_rfl),by omega,by omega,?_⟩;simp only[hc,hd,acg];refine aD.fn (CC _ _) ?_;simp only[go_sem,simprocAttr,h54,hst];refine⟨λhne'=>az ?_,λhe=>⟨hlt,.here ?_⟩⟩
  .have hcd:c≠d:=λe=>hne' (by rw[e,qU])
   have hl:iQ ((bc x).take (bV (bc x))) ((bc y).take (bV (bc y)))=sgn c.toNat d.toNat:=by
    refine T6 (i:=i) ?_ ?_ ?_ hcd
    .grind
    .grind
    grind
   grind [bw.eq_def]
  .simp only[go_sem,simprocAttr,h0,h1,h7,h8,h53,hst];refine⟨ag hlt (ack hm1 (ack hnx hx)),?_⟩;have:=ql he;rw[ah hc,ah hd,hp,show c=d from aci.1 (by omega)]
 grind [Mk]
def oT :Option (List UInt8×List UInt8×List UInt8)->AV
 |none=>.tup [.str [],.str [],.str [],.bool false]
 |some (e,u,r)=>.tup [.str e,.str u,.str r,.bool true]
theorem Nw (v:Option (List UInt8×List UInt8×List UInt8)):aW 0 (oT v):=by
 cases v<;>refine .tup λx hx=>?_<;>simp at hx
 .rcases hx with rfl|rfl
  .exact .str _
  .exact .bool _
 .rcases hx with rfl|rfl|rfl|rfl
  .exact .str _
  .exact .str _
  .exact .str _
  .exact .bool _
theorem ot {s:List UInt8}{f:UInt8->Bool}{i:Nat}{c:UInt8}(h:(s.take i).all f=true)(hc:s[i]?=some c)(hf:f c=true):(s.take (i+1)).all f=true:=by
 simp_all[ah]
theorem mV (s:List UInt8):ai prog W0 109 [.str s] (oT (fL s)):=by
 refine an [2,3,4,5] [] func109 rfl rfl ntmps109 rfl rfl (Nw _) λhs σ=>?_
 have hsl:s.length<=maxLen:=dC (hs (.str s) (by simp));have none_end:fL s=none->dj (AV.tup [.str [],.str [],.str [],.bool false]) (oT (fL s)):=λe=>by rw[e];exact .refl _
 simp only[go_sem,simprocAttr];simp only[acj,ach,decide_eq_true_eq,decide_eq_false_iff_not,beq_iff_eq,beq_eq_false_iff_ne];refine⟨λh=>none_end (by grind [fL]),λh=>?_⟩;have hlen: ¬(s.length=0\/48<s.length):=by omega
 refine aj.fn (Po s 58) ?_;simp only[go_sem,simprocAttr];refine cc.cut (λA=>∃ e t,ta s=some (e,t)/\A.env 0= .str t/\A.env 6= .str e/\A.env 7= .str []/\A.st=σ/\t.length<=s.length) (λA ⟨e,t,hep,h0,h6,h7,hst,htl⟩=>?_) (λhf=>?_) (λhf=>?_)
 case refine_3=>
  simp only[go_sem,simprocAttr];grind [ta]
 case refine_2=>
  obtain⟨i,hi,hgi,hlt⟩:=(lN 58 s).resolve_left (λe=>by simp_all);rw[hi];have hw:IntKind.i64.wrap ((i:Int)+1)=((i+1:Nat):Int):=ko hlt hsl;have hep:ta s=if 1<=(s.take i).length/\(s.take i).length<=9/\(s.take i).all bk=true then some (s.take i,s.drop (i+1))else none:=by
   grind [ta]
  have bad: ¬(1<=(s.take i).length/\(s.take i).length<=9/\(s.take i).all bk=true)->fL s=none:=λhb=>by
   grind [fL]
  simp only[go_sem,simprocAttr,hw];refine⟨.of (by kernel_rfl),by omega,by omega,?_⟩;simp only[acj,ach,decide_eq_true_eq,decide_eq_false_iff_not];refine⟨λhb=>none_end (bad (by omega)),λhb=>?_⟩;have htk:(s.take i).length=i:=by grind
  refine VC.upto [] i (λj A=>A.env 0= .str (s.drop (i+1))/\A.env 6= .str (s.take i)/\A.env 7= .str []/\A.env 43= .int .i64 i/\A.env 44= .int .i64 j/\A.st=σ/\((s.take i).take j).all bk=true) 0 (acf _) (.here ?_) λj A hj ⟨h0,h6,h7,h43,h44,hst,hI⟩=>?_
  .simp only[go_sem,simprocAttr];simp_all
  simp only[go_sem,simprocAttr,h0,h6,h7,h43,h44,hst];refine⟨λhlt'=>⟨by omega,?_⟩,λhge=>⟨s.take i,s.drop (i+1),?_⟩⟩
  .obtain⟨c,hc⟩:=get_some (show j<(s.take i).length by omega);simp only[hc,acg];refine aj.fn (gz c) ?_;simp only[go_sem,simprocAttr,h44,hst];refine⟨λhd=>none_end (bad λhb=>?_),λhd=>⟨hlt',.here ?_⟩⟩
   .grind
   .simp only[go_sem,simprocAttr,h0,h6,h7,h43,hst];grind [ag,ot]
  .have:j=i:=by omega
   rw[this,List.take_take,Nat.min_self]at hI;simp only[go_sem,simprocAttr];grind
 simp only[go_sem,simprocAttr,h0];refine aj.fn (We t 45) ?_;simp only[go_sem,simprocAttr];refine cc.cut (λA=>∃ u r,xB t=some (u,r)/\A.env 0= .str u/\A.env 6= .str e/\A.env 7= .str r/\A.st=σ/\u.length<=s.length/\r.length<=s.length) (λA ⟨u,r,hrv,h0,h6,h7,hst,hul,hrl⟩=>?_) (λhf=>?_) (λhf=>?_)
 case refine_3=>
  simp only[go_sem,simprocAttr,h0,h6,h7,hst];grind [xB]
 case refine_2=>
  obtain⟨i,hi,hgi,hlt⟩:=(rB 45 t).resolve_left (λe=>by simp_all);rw[hi];have hw:IntKind.i64.wrap ((i:Int)+1)=((i+1:Nat):Int):=ko hlt (by omega);have hrv:xB t=if t.drop (i+1)=[]then none else some (t.take i,t.drop (i+1)):=by
   grind [xB]
  simp only[go_sem,simprocAttr,hw,h0,h6,hst];refine⟨.of (by kernel_rfl),by omega,by omega,λhb=>none_end (by grind [fL]),λhb=>⟨t.take i,t.drop (i+1),?_⟩⟩;grind
 have hv:fL s=if r.all tQ&&u.all GD&&iE u then some (e,u,r)else none:=by
  grind [fL]
 simp only[go_sem,simprocAttr,h7];refine ae.cut (λA=>A.env 0= .str u/\A.env 6= .str e/\A.env 7= .str r/\A.st=σ/\r.all tQ=true) (λA ⟨h0,h6,h7,hst,hr⟩=>?_) ?_
 case refine_2=>
  refine VC.upto [] r.length (λj A=>A.env 0= .str u/\A.env 6= .str e/\A.env 7= .str r/\A.env 67= .int .i64 r.length/\A.env 68= .int .i64 j/\A.st=σ/\(r.take j).all tQ=true) 0 (acf _) (.here ?_) λj A hj ⟨h0,h6,h7,h67,h68,hst,hI⟩=>?_
  .simp only[go_sem,simprocAttr,h0,h6,h7,hst];simp_all
  simp only[go_sem,simprocAttr,h0,h6,h7,h67,h68,hst];refine⟨λhlt=>⟨hlt,?_⟩,λhge=>by grind⟩;obtain⟨c,hc⟩:=get_some hlt;simp only[hc,acg];refine aj.fn (sw c) ?_;simp only[go_sem,simprocAttr,hst];refine aD.fnG (λ_=>gz c) ?_;simp only[go_sem,simprocAttr,h68,hst,MD];refine⟨λhb=>none_end (by grind),λhb=>⟨hlt,.here ?_⟩⟩;simp only[go_sem,simprocAttr,h0,h6,h7,h67,hst];grind [ag,ot]
 simp only[go_sem,simprocAttr,h0];refine ae.cut (λA=>A.env 0= .str u/\A.env 6= .str e/\A.env 7= .str r/\A.st=σ/\u.all GD=true) (λA ⟨h0,h6,h7,hst,hu⟩=>?_) ?_
 case refine_2=>
  refine VC.upto [] u.length (λj A=>A.env 0= .str u/\A.env 6= .str e/\A.env 7= .str r/\A.env 96= .int .i64 u.length/\A.env 97= .int .i64 j/\A.st=σ/\(u.take j).all GD=true) 0 (acf _) (.here ?_) λj A hj ⟨h0,h6,h7,h96,h97,hst,hI⟩=>?_
  .simp only[go_sem,simprocAttr,h0,h6,h7,hst];simp_all
  simp only[go_sem,simprocAttr,h0,h6,h7,h96,h97,hst];refine⟨λhlt=>⟨hlt,?_⟩,λhge=>by grind⟩;obtain⟨c,hc⟩:=get_some hlt;simp only[hc,acg];refine aj.fn (sw c) ?_;simp only[go_sem,simprocAttr,hst];refine aD.fnG (λ_=>gz c) ?_;simp only[go_sem,simprocAttr,h97,hst,SV];refine⟨λhb=>none_end (by grind),λhb=>⟨hlt,.here ?_⟩⟩;simp only[go_sem,simprocAttr,h0,h6,h7,h96,hst];grind [ag,ot]
 simp only[go_sem,simprocAttr,h0,hst];cases u with
 |nil=>
  simp only[go_sem,simprocAttr];refine aD.fnG (λ_=>gz 0) ?_;simp only[go_sem,simprocAttr,h0,h6,h7,hst];grind [iE]
 |cons c u'=>
  simp only[go_sem,simprocAttr];refine aD.fnG (λ_=>gz c) ?_;simp only[go_sem,simprocAttr,h0,h6,h7,hst];refine⟨λhd=>none_end (by grind [iE]),λhd=>?_⟩;rw[hv,hr,hu];simp only[iE,hd,Bool.and_true,if_true];exact .refl _
theorem xf (s:List UInt8):ai prog W0 98 [.str s] (.bool (bK s)):=by
 refine an [2] [] func98 rfl rfl ntmps98 rfl rfl (.bool _) λhs σ=>?_
 simp only[go_sem,simprocAttr];refine aj.fn (mV s) ?_;cases h:fL s with
 |none=>simp only[go_sem,simprocAttr,oT];grind [ar,bK]
 |some v=>obtain⟨e,u,r⟩:=v;simp only[go_sem,simprocAttr,oT];grind [ar,bK]
theorem qp (a b:List UInt8):ai prog W0 52 [.str a,.str b] (.int .i64 (bO a b)):=by
 refine an [4] [14] func52 rfl rfl ntmps52 rfl rfl (.int _ _) λhs σ=>?_
 simp only[go_sem,simprocAttr];refine aj.fn (mV a) ?_;cases h:fL a with
 |none=>
  simp only[go_sem,simprocAttr,oT];refine aj.fn (mV b) ?_;cases h':fL b with
  |none=>simp only[go_sem,simprocAttr,oT];grind [az,bO]
  |some v=>obtain⟨f,v,t⟩:=v;simp only[go_sem,simprocAttr,oT];grind [az,bO]
 |some v=>
  obtain⟨e,u,r⟩:=v;simp only[go_sem,simprocAttr,oT];refine aj.fn (mV b) ?_;cases h':fL b with
  |none=>simp only[go_sem,simprocAttr,oT];grind [az,bO]
  |some v=>
   obtain⟨f,v,t⟩:=v;simp only[go_sem,simprocAttr,oT];refine VC.upto _ 3 (λi A=>A.env 45= .agg 173 [.agg 172 [.str e,.str f],.agg 172 [.str u,.str v],.agg 172 [.str r,.str t]]/\A.env 46= .int .i64 i/\Ext σ A.st/\(1<=i->bw e f=0)/\(2<=i->bw u v=0)/\(3<=i->bw r t=0)) 0 (acf _) (.here ?_) λi A hi ⟨h45,h46,hst,hI⟩=>?_
   .simp only[go_sem,simprocAttr];simp[Ext.refl]
   obtain⟨hI1,hI2,hI3⟩:=hI;have hc:bO a b=if bw e f≠0 then bw e f else if bw u v≠0 then bw u v else bw r t:=by grind [bO]
   rcases(show i=0\/i=1\/i=2\/i=3 by omega)with rfl|rfl|rfl|rfl
   .simp only[go_sem,simprocAttr,h45,h46];refine aj.fn (BM e f) ?_;simp only[go_sem,simprocAttr,h46];refine⟨λhp=>⟨az (by omega),hst.app _⟩,λhp=>.here ?_⟩;simp only[go_sem,simprocAttr,h45];grind [Ext.app]
   .simp only[go_sem,simprocAttr,h45,h46];refine aj.fn (BM u v) ?_;simp only[go_sem,simprocAttr,h46];refine⟨λhp=>⟨az (by omega),hst.app _⟩,λhp=>.here ?_⟩;simp only[go_sem,simprocAttr,h45];grind [Ext.app]
   .simp only[go_sem,simprocAttr,h45,h46];refine aj.fn (BM r t) ?_;simp only[go_sem,simprocAttr,h46];refine⟨λhp=>⟨az (by omega),hst.app _⟩,λhp=>.here ?_⟩;simp only[go_sem,simprocAttr,h45];grind [Ext.app]
   .simp only[go_sem,simprocAttr,h45,h46];exact⟨az (by omega),hst⟩
theorem oz (a b:List UInt8):ai prog W0 50 [.str a,.str b] (.bool (bt a b)):=by
 refine an [4] [] func50 rfl rfl ntmps50 rfl rfl (.bool _) λhs σ=>?_
 simp only[go_sem,simprocAttr];refine aj.fn (xf a) ?_;simp only[go_sem,simprocAttr];refine aD.fnG (λ_=>xf b) ?_;simp only[go_sem,simprocAttr];refine aD.fnG (λ_=>qp a b) ?_;simp only[go_sem,simprocAttr];exact ar rfl
theorem Gi (rel:Int)(a b:List UInt8):ai prog W0 114 [.int .i64 rel,.str a,.str b] (.bool (fM rel a b)):=by
 refine an [6] [] func114 rfl rfl ntmps114 rfl rfl (.bool _) λhs σ=>?_
 simp only[go_sem,simprocAttr];refine⟨λh0=>aj.fn (xf a) ?_,λh0=>aj.fn (xf a) ?_⟩
 .simp only[go_sem,simprocAttr];grind [ar,fM]
 simp only[go_sem,simprocAttr];refine aD.fnG (λ_=>xf b) ?_;simp only[go_sem,simprocAttr];refine⟨λhb=>?_,λhb=>?_⟩
 .grind [ar,fM]
 have hv:(bK a&&bK b)=true:=by simp_all
 have hh:fM rel a b=(if rel=1 then decide (bO a b<0)else if rel=2 then decide (bO a b<=0)else if rel=3 then bO a b==0
   else if rel=4 then decide (0<=bO a b)else if rel=5 then decide (0<bO a b)else false):=by grind [fM]
 refine aj.fn (qp a b) ?_;simp only[go_sem,simprocAttr];grind [ar]
def KA (rel:Int):List UInt8:=if rel=1 then [60,60]else if rel=2 then [60,61]else if rel=3 then [61]else if rel=4 then [62,61]else if rel=5 then [62,62]else []
theorem P2 (rel:Int):ai prog W0 180 [.int .i64 rel] (.str (KA rel)):=by
 refine an [2] [] func180 rfl rfl ntmps180 rfl rfl (.str _) λhs σ=>?_
 simp only[go_sem,simprocAttr];grind [n9,KA]
end Go.Proofs.Tryz
end
